/- The small code of functions of this program, printed by wip/tools/MiniShow.lean, with the fact that it is theirs. -/
import Derived.Test.YtoejdgoicoaomaaGreatDoorG4
import Derived.Test.YtoejdgoicoaomaaGreatDoorProg
set_option linter.unusedVariables false
set_option linter.unusedSimpArgs false
namespace Go.Proofs.YtoejdgoicoaomaaGreatDoor.Code
open Go.Mini
set_option maxRecDepth 100000
def vI (a b:Nat):MI:=⟨some a,.mv (.t b),none⟩
def iI (a:Nat) (o:MOp):MI:=⟨some a,o,none⟩
def jI (a:Nat) (o:MOp) (g:Nat) (b:Bool):MI:=⟨some a,o,some (g,b)⟩
def uI (a b g:Nat) (p:Bool):MI:=⟨some a,.mv (.t b),some (g,p)⟩
def sI (o:MOp):MI:=⟨none,o,none⟩
def dI (m:MI) (n:Nat):DI:=⟨m,n,false,false⟩
def pI (m:MI) (n:Nat):DI:=⟨m,n,true,false⟩
def qI (m:MI) (n:Nat):DI:=⟨m,n,true,true⟩
def zl0:List Value:=[(.int .i64 0),(.int .i64 0),(.string ⟨#[]⟩),(.int .i64 0),(.int .u8 0),(.int .u8 0),(.int .u8 0),(.int .u8 0),(.int .u8 0),(.int .u8 0),(.int .u8 0),(.int .u8 0),(.int .i64 0),(.int .i64 0),(.int .i64 0),(.int .i64 0),(.int .i64 0),(.int .i64 0),(.int .i64 0),(.int .i64 0),(.int .i64 0),(.int .i64 0),(.int .i64 0),(.int .i64 0),(.int .i64 0),(.int .i64 0),(.int .i64 0),(.int .i64 0),(.int .i64 0),(.int .i64 0),(.int .i64 0),(.int .i64 0),(.int .i64 0),(.int .i64 0),(.int .i64 0),(.int .i64 0),(.int .i64 0),(.int .i64 0),(.int .i64 0),(.int .i64 0),(.int .i64 0),(.int .i64 0),(.int .i64 0),(.int .i64 0),(.int .i64 0),(.int .i64 0),(.int .i64 0),(.int .i64 0),(.int .i64 0),(.int .i64 0),(.int .i64 0),(.int .i64 0),(.int .i64 0),(.int .i64 0),(.int .i64 0),(.int .i64 0),(.int .i64 0),(.int .i64 0),(.int .i64 0),(.int .i64 0),(.int .i64 0),(.int .i64 0),(.int .i64 0),(.int .i64 0),(.int .i64 0),(.int .i64 0),(.int .i64 0),(.int .i64 0),(.int .i64 0),(.int .i64 0),(.int .i64 0),(.int .i64 0),(.int .i64 0),(.int .i64 0),(.int .i64 0),(.int .i64 0),(.int .i64 0),(.int .i64 0),(.int .i64 0),(.int .i64 0),(.int .i64 0),(.int .i64 0),(.bool false),(.bool false),(.bool false),(.bool false),(.bool false),(.bool false),(.bool false),(.bool false),(.bool false),(.bool false),(.int .i64 0),(.int .i64 0),(.int .i64 0),(.int .i64 0),(.int .i64 0),(.int .i64 0),(.int .i64 0),(.int .i64 0),(.int .i64 0),(.int .i64 0),(.int .i64 0),(.int .i64 0),(.int .i64 0),(.int .i64 0),(.int .i64 0),(.int .i64 0),(.int .i64 0),(.int .i64 0),(.int .i64 0),(.int .i64 0),(.int .i64 0),(.int .i64 0),(.int .i64 0),(.int .i64 0),(.int .i64 0),(.int .i64 0),(.int .i64 0),(.int .i64 0),(.int .i64 0),(.int .i64 0),(.int .i64 0),(.int .i64 0),(.int .i64 0),(.int .i64 0),(.int .i64 0),(.int .i64 0),(.int .i64 0),(.int .i64 0),(.int .i64 0),(.int .i64 0),(.int .i64 0),(.int .i64 0),(.int .i64 0),(.int .i64 0),(.int .i64 0),(.int .i64 0),(.int .i64 0),(.int .i64 0),(.int .i64 0),(.int .i64 0),(.int .i64 0),(.int .i64 0),(.int .i64 0),(.int .i64 0),(.int .i64 0),(.int .i64 0),(.int .i64 0),(.int .i64 0),(.int .i64 0),(.int .i64 0),(.bool false),(.bool false),(.bool false),(.bool false),(.bool false),(.bool false),(.bool false),(.bool false),(.bool false),(.bool false),(.bool false),(.bool false),(.bool false),(.bool false),(.bool false),(.bool false),(.bool false),(.bool false),(.bool false),(.bool false)]
def c12:MC:=
 (.seq (.ops [iI 0 (.mv (.c (.bool false)))])
 (.seq (.ops [iI 9 (.bld [(.int .i64 0),(.int .i64 0),(.string ⟨#[]⟩)] [(0,1,(.c (.int .i64 2))),(1,1,(.c (.int .i64 1))),(2,1,(.c (.string ⟨#[46,67]⟩)))]),iI 10 (.call 14 [(.t 9)]),vI 8 10,iI 11 (.ext (.t 8) 0),iI 12 (.ext (.t 8) 1),iI 1 (.alloc zl0),sI (.store 172 (.t 1) (.t 11)),vI 2 12])
 (.seq (.ops [iI 14 (.loadN 172 (.t 1)),iI 15 (.bld [(.string ⟨#[]⟩),(.int .i64 0),(.int .i64 0),(.int .i64 0)] [(0,1,(.c (.string ⟨#[114,111,98,111,116]⟩))),(1,1,(.c (.int .i64 3))),(2,1,(.c (.int .i64 1))),(3,1,(.c (.int .i64 200)))]),iI 16 (.call 18 [(.t 14),(.t 15)]),vI 13 16,iI 17 (.ext (.t 13) 0),iI 18 (.ext (.t 13) 1),iI 19 (.ext (.t 13) 2),sI (.store 172 (.t 1) (.t 17)),vI 3 18,vI 4 19])
 (.seq (.ops [iI 21 (.loadN 172 (.t 1)),iI 22 (.bld [(.string ⟨#[]⟩),(.int .i64 0),(.int .i64 0),(.int .i64 0)] [(0,1,(.c (.string ⟨#[116,97,115,107]⟩))),(1,1,(.c (.int .i64 5))),(2,1,(.c (.int .i64 0))),(3,1,(.c (.int .i64 1)))]),iI 23 (.call 18 [(.t 21),(.t 22)]),vI 20 23,iI 24 (.ext (.t 20) 0),iI 25 (.ext (.t 20) 1),iI 26 (.ext (.t 20) 2),sI (.store 172 (.t 1) (.t 24)),vI 5 25,vI 6 26])
 (.seq (.seq (.ops [iI 7 (.mv (.c (.int .i64 0)))])
 (.block 0 (.loop (.seq (.seq (.ops [vI 27 7,iI 28 (.bin .lss (.t 27) (.c (.int .i64 4)))])
 (.cond (.t 28) .skip (.exit 0)))
 (.seq (.block 1 (.ops [iI 32 (.loadN 172 (.t 1)),iI 33 (.bld [(.string ⟨#[]⟩),(.int .i64 0),(.int .i64 0),(.int .i64 0)] [(0,1,(.c (.string ⟨#[116,105,99,107]⟩)))]),iI 34 (.call 18 [(.t 32),(.t 33)]),vI 31 34,iI 35 (.ext (.t 31) 0),iI 36 (.ext (.t 31) 1),iI 37 (.ext (.t 31) 2),sI (.store 172 (.t 1) (.t 35))]))
 (.ops [vI 29 7,iI 30 (.bin .add (.t 29) (.c (.int .i64 1))),vI 7 30]))))))
 (.seq (.ops [vI 38 2,iI 39 (.call 17 [(.t 38)]),iI 40 (.bin .eql (.t 39) (.c (.int .i64 0))),vI 41 40,uI 42 4 41 true,jI 43 (.call 17 [(.t 42)]) 41 true,jI 44 (.bin .eql (.t 43) (.c (.int .i64 0))) 41 true,iI 45 (.pick (.t 41) (.t 44) (.c (.bool false))),vI 46 45,uI 47 6 46 true,jI 48 (.call 17 [(.t 47)]) 46 true,jI 49 (.bin .eql (.t 48) (.c (.int .i64 0))) 46 true,iI 50 (.pick (.t 46) (.t 49) (.c (.bool false))),vI 51 50,jI 52 (.fadd 92 (.t 1)) 51 true,jI 53 (.iaA 20 3 (.t 52) (.c (.int .i64 5))) 51 true,jI 54 (.fadd 2 (.t 53)) 51 true,jI 55 (.load1 (.t 54)) 51 true,jI 56 (.bin .eql (.t 55) (.c (.int .i64 3))) 51 true,iI 57 (.pick (.t 51) (.t 56) (.c (.bool false))),vI 58 57,jI 59 (.fadd 12 (.t 1)) 58 true,jI 60 (.iaA 10 7 (.t 59) (.c (.int .i64 3))) 58 true,jI 61 (.fadd 4 (.t 60)) 58 true,jI 62 (.load1 (.t 61)) 58 true,jI 63 (.bin .eql (.t 62) (.c (.int .i64 3))) 58 true,iI 64 (.pick (.t 58) (.t 63) (.c (.bool false))),vI 0 64])
 .ret))))))
def r12:List RV:=[.t 0]
theorem fn12:cFn Tryz.prog 12=some (c12,r12,65):=by kernel_rfl
def c13:MC:=
 (.seq (.ops [iI 2 (.mv (.c (.int .i64 0)))])
 (.seq (.seq (.ops [vI 4 0,iI 5 (.len false (.t 4)),iI 6 (.bin .gtr (.t 5) (.c (.int .i64 60)))])
 (.cond (.t 6) (.seq (.ops [iI 2 (.mv (.c (.int .i64 0)))])
 .ret) .skip))
 (.seq (.seq (.ops [iI 3 (.mv (.c (.int .i64 0)))])
 (.block 0 (.loop (.seq (.seq (.ops [vI 7 3,vI 8 0,iI 9 (.len false (.t 8)),iI 10 (.bin .lss (.t 7) (.t 9))])
 (.cond (.t 10) .skip (.exit 0)))
 (.seq (.block 1 (.seq (.ops [vI 13 0,vI 14 3,iI 15 (.iaS 4 (.t 13) (.t 14)),iI 16 (.fadd 0 (.t 15)),iI 17 (.load1 (.t 16)),iI 18 (.len true (.t 17)),iI 19 (.bin .gtr (.t 18) (.c (.int .i64 50)))])
 (.cond (.t 19) (.seq (.ops [iI 2 (.mv (.c (.int .i64 0)))])
 .ret) .skip)))
 (.ops [vI 11 3,iI 12 (.bin .add (.t 11) (.c (.int .i64 1))),vI 3 12]))))))
 (.seq (.ops [iI 2 (.mv (.c (.int .i64 1)))])
 .ret))))
def r13:List RV:=[.t 2]
theorem fn13:cFn Tryz.prog 13=some (c13,r13,20):=by kernel_rfl
def c14:MC:=
 (.seq (.ops [iI 1 (.box (.t 0)),iI 2 (.alloc zl0),iI 3 (.mv (.c .nilIface))])
 (.seq (.seq (.ops [iI 4 (.loadN 3 (.t 1)),iI 5 (.call 32 [(.t 4)]),iI 6 (.not (.t 5))])
 (.cond (.t 6) (.seq (.ops [iI 7 (.bld zl0 []),iI 8 (.mki 78 (.c (.int .i64 1))),iI 9 (.call 33 [(.c (.string ⟨#[109,111,100,101,108]⟩)),(.t 8)]),sI (.store 172 (.t 2) (.t 7)),vI 3 9])
 .ret) .skip))
 (.seq (.ops [iI 10 (.loadN 3 (.t 1)),iI 11 (.bld zl0 [(0,3,(.t 10))]),sI (.store 172 (.t 2) (.t 11)),iI 3 (.mv (.c .nilIface))])
 .ret)))
def r14:List RV:=[.cell 2 172 true,.t 3]
theorem fn14:cFn Tryz.prog 14=some (c14,r14,12):=by kernel_rfl
def c15:MC:=
 (.seq (.ops [iI 1 (.box (.t 0)),iI 2 (.alloc [(.int .i64 0),(.int .i64 0),(.string ⟨#[]⟩)])])
 (.seq (.ops [iI 3 (.fadd 0 (.t 1)),iI 4 (.load1 (.t 3)),iI 5 (.fadd 1 (.t 1)),iI 6 (.load1 (.t 5)),iI 7 (.fadd 2 (.t 1)),iI 8 (.load1 (.t 7)),iI 9 (.bld [(.int .i64 0),(.int .i64 0),(.string ⟨#[]⟩)] [(0,1,(.t 4)),(1,1,(.t 6)),(2,1,(.t 8))]),sI (.store 3 (.t 2) (.t 9))])
 .ret))
def r15:List RV:=[.cell 2 3 true]
theorem fn15:cFn Tryz.prog 15=some (c15,r15,10):=by kernel_rfl
def c16:MC:=
 (.seq (.ops [iI 1 (.box (.t 0)),iI 2 (.mv (.c (.bool false)))])
 (.seq (.seq (.ops [iI 11 (.fadd 0 (.t 1)),iI 12 (.load1 (.t 11)),iI 13 (.bin .lss (.t 12) (.c (.int .i64 1))),vI 14 13,jI 15 (.fadd 0 (.t 1)) 14 false,jI 16 (.load1 (.t 15)) 14 false,jI 17 (.bin .gtr (.t 16) (.c (.int .i64 8))) 14 false,iI 18 (.pick (.t 14) (.c (.bool true)) (.t 17)),vI 19 18,jI 20 (.fadd 1 (.t 1)) 19 false,jI 21 (.load1 (.t 20)) 19 false,jI 22 (.bin .lss (.t 21) (.c (.int .i64 1))) 19 false,iI 23 (.pick (.t 19) (.c (.bool true)) (.t 22)),vI 24 23,jI 25 (.fadd 1 (.t 1)) 24 false,jI 26 (.load1 (.t 25)) 24 false,jI 27 (.bin .gtr (.t 26) (.c (.int .i64 8))) 24 false,iI 28 (.pick (.t 24) (.c (.bool true)) (.t 27)),vI 29 28,jI 30 (.fadd 2 (.t 1)) 29 false,jI 31 (.load1 (.t 30)) 29 false,jI 32 (.len true (.t 31)) 29 false,jI 33 (.fadd 0 (.t 1)) 29 false,jI 34 (.load1 (.t 33)) 29 false,jI 35 (.fadd 1 (.t 1)) 29 false,jI 36 (.load1 (.t 35)) 29 false,jI 37 (.bin .mul (.t 34) (.t 36)) 29 false,jI 38 (.bin .neq (.t 32) (.t 37)) 29 false,iI 39 (.pick (.t 29) (.c (.bool true)) (.t 38))])
 (.cond (.t 39) (.seq (.ops [iI 2 (.mv (.c (.bool false)))])
 .ret) .skip))
 (.seq (.ops [iI 40 (.fadd 2 (.t 1)),iI 41 (.load1 (.t 40)),iI 42 (.len true (.t 41)),iI 43 (.mks 1 1 [(.bool false)] (.t 42) (.t 42)),vI 3 43])
 (.seq (.ops [iI 4 (.mv (.c (.bool false)))])
 (.seq (.seq (.ops [iI 5 (.mv (.c (.int .i64 0)))])
 (.block 0 (.loop (.seq (.seq (.ops [vI 44 5,iI 45 (.fadd 2 (.t 1)),iI 46 (.load1 (.t 45)),iI 47 (.len true (.t 46)),iI 48 (.bin .lss (.t 44) (.t 47))])
 (.cond (.t 48) .skip (.exit 0)))
 (.seq (.block 1 (.seq (.ops [iI 51 (.fadd 2 (.t 1)),iI 52 (.load1 (.t 51)),vI 53 5,iI 54 (.idxS (.t 52) (.t 53)),vI 6 54])
 (.seq (.seq (.ops [vI 55 6,iI 56 (.bin .neq (.t 55) (.c (.int .u8 35))),vI 57 56,uI 58 6 57 true,jI 59 (.bin .neq (.t 58) (.c (.int .u8 46))) 57 true,iI 60 (.pick (.t 57) (.t 59) (.c (.bool false))),vI 61 60,uI 62 6 61 true,jI 63 (.bin .neq (.t 62) (.c (.int .u8 67))) 61 true,iI 64 (.pick (.t 61) (.t 63) (.c (.bool false))),vI 65 64,uI 66 6 65 true,jI 67 (.bin .neq (.t 66) (.c (.int .u8 80))) 65 true,iI 68 (.pick (.t 65) (.t 67) (.c (.bool false)))])
 (.cond (.t 68) (.seq (.ops [iI 2 (.mv (.c (.bool false)))])
 .ret) .skip))
 (.seq (.ops [vI 69 6,iI 70 (.bin .eql (.t 69) (.c (.int .u8 67))),vI 71 70,uI 72 4 71 true,jI 73 (.not (.t 72)) 71 true,iI 74 (.pick (.t 71) (.t 73) (.c (.bool false)))])
 (.cond (.t 74) (.seq (.ops [vI 75 3,vI 76 5,iI 77 (.iaS 1 (.t 75) (.t 76)),sI (.store 1 (.t 77) (.c (.bool true)))])
 (.ops [iI 4 (.mv (.c (.bool true)))])) .skip)))))
 (.ops [vI 49 5,iI 50 (.bin .add (.t 49) (.c (.int .i64 1))),vI 5 50]))))))
 (.seq (.seq (.ops [iI 7 (.mv (.c (.int .i64 0)))])
 (.block 2 (.loop (.seq (.seq (.ops [vI 78 7,vI 79 3,iI 80 (.len false (.t 79)),iI 81 (.bin .lss (.t 78) (.t 80))])
 (.cond (.t 81) .skip (.exit 2)))
 (.seq (.block 3 (.seq (.ops [iI 8 (.mv (.c (.int .i64 0)))])
 (.block 4 (.loop (.seq (.seq (.ops [vI 84 8,vI 85 3,iI 86 (.len false (.t 85)),iI 87 (.bin .lss (.t 84) (.t 86))])
 (.cond (.t 87) .skip (.exit 4)))
 (.seq (.block 5 (.seq (.ops [iI 9 (.mv (.c (.int .i64 0)))])
 (.block 6 (.loop (.seq (.seq (.ops [vI 90 9,vI 91 3,iI 92 (.len false (.t 91)),iI 93 (.bin .lss (.t 90) (.t 92)),vI 94 93,jI 95 (.fadd 2 (.t 1)) 94 true,jI 96 (.load1 (.t 95)) 94 true,uI 97 8 94 true,jI 98 (.idxS (.t 96) (.t 97)) 94 true,jI 99 (.bin .neq (.t 98) (.c (.int .u8 35))) 94 true,iI 100 (.pick (.t 94) (.t 99) (.c (.bool false)))])
 (.cond (.t 100) .skip (.exit 6)))
 (.seq (.block 7 (.seq (.ops [vI 103 3,vI 104 9,iI 105 (.iaS 1 (.t 103) (.t 104)),iI 106 (.load1 (.t 105)),vI 107 106,jI 108 (.fadd 0 (.t 1)) 107 true,jI 109 (.load1 (.t 108)) 107 true,uI 110 8 107 true,uI 111 9 107 true,jI 112 (.call 24 [(.t 109),(.t 110),(.t 111)]) 107 true,iI 113 (.pick (.t 107) (.t 112) (.c (.bool false)))])
 (.cond (.t 113) (.ops [vI 114 3,vI 115 8,iI 116 (.iaS 1 (.t 114) (.t 115)),sI (.store 1 (.t 116) (.c (.bool true)))]) .skip)))
 (.ops [vI 101 9,iI 102 (.bin .add (.t 101) (.c (.int .i64 1))),vI 9 102])))))))
 (.ops [vI 88 8,iI 89 (.bin .add (.t 88) (.c (.int .i64 1))),vI 8 89])))))))
 (.ops [vI 82 7,iI 83 (.bin .add (.t 82) (.c (.int .i64 1))),vI 7 83]))))))
 (.seq (.seq (.ops [iI 10 (.mv (.c (.int .i64 0)))])
 (.block 8 (.loop (.seq (.seq (.ops [vI 117 10,vI 118 3,iI 119 (.len false (.t 118)),iI 120 (.bin .lss (.t 117) (.t 119))])
 (.cond (.t 120) .skip (.exit 8)))
 (.seq (.block 9 (.seq (.ops [vI 123 3,vI 124 10,iI 125 (.iaS 1 (.t 123) (.t 124)),iI 126 (.load1 (.t 125)),iI 127 (.not (.t 126)),vI 128 127,jI 129 (.fadd 2 (.t 1)) 128 true,jI 130 (.load1 (.t 129)) 128 true,uI 131 10 128 true,jI 132 (.idxS (.t 130) (.t 131)) 128 true,jI 133 (.bin .neq (.t 132) (.c (.int .u8 35))) 128 true,iI 134 (.pick (.t 128) (.t 133) (.c (.bool false)))])
 (.cond (.t 134) (.seq (.ops [iI 2 (.mv (.c (.bool false)))])
 .ret) .skip)))
 (.ops [vI 121 10,iI 122 (.bin .add (.t 121) (.c (.int .i64 1))),vI 10 122]))))))
 (.seq (.ops [vI 135 4,vI 2 135])
 .ret))))))))
def r16:List RV:=[.t 2]
theorem fn16:cFn Tryz.prog 16=some (c16,r16,136):=by kernel_rfl
def c17:MC:=
 (.seq (.ops [iI 2 (.mv (.c (.int .i64 0)))])
 (.seq (.seq (.ops [vI 4 0,iI 5 (.eqN .iface false (.t 4) (.c .nilIface))])
 (.cond (.t 5) (.seq (.ops [iI 2 (.mv (.c (.int .i64 0)))])
 .ret) .skip))
 (.seq (.ops [iI 3 (.alloc [(.int .i64 0)])])
 (.seq (.seq (.ops [vI 6 0,iI 7 (.mki 81 (.t 3)),iI 8 (.call 34 [(.t 6),(.t 7)])])
 (.cond (.t 8) (.seq (.ops [iI 9 (.load1 (.t 3)),vI 2 9])
 .ret) .skip))
 (.seq (.ops [iI 2 (.mv (.c (.int .i64 (-1))))])
 .ret)))))
def r17:List RV:=[.t 2]
theorem fn17:cFn Tryz.prog 17=some (c17,r17,10):=by kernel_rfl
def c18:MC:=
 (.seq (.ops [iI 2 (.box (.t 0)),iI 3 (.box (.t 1)),iI 4 (.alloc zl0),iI 5 (.mv (.c (.slice none 0 0))),iI 6 (.mv (.c .nilIface))])
 (.seq (.seq (.ops [iI 10 (.loadN 172 (.t 2)),iI 11 (.call 20 [(.t 10)]),iI 12 (.not (.t 11))])
 (.cond (.t 12) (.seq (.ops [iI 13 (.bld zl0 []),iI 14 (.mki 78 (.c (.int .i64 1))),iI 15 (.call 33 [(.c (.string ⟨#[109,111,100,101,108]⟩)),(.t 14)]),sI (.store 172 (.t 4) (.t 13)),iI 5 (.mv (.c (.slice none 0 0))),vI 6 15])
 .ret) .skip))
 (.seq (.ops [iI 17 (.loadN 172 (.t 2)),iI 18 (.loadN 4 (.t 3)),iI 19 (.call 35 [(.t 17),(.t 18)]),vI 16 19,iI 20 (.ext (.t 16) 0),iI 21 (.ext (.t 16) 1),iI 22 (.ext (.t 16) 2),iI 7 (.alloc zl0),sI (.store 172 (.t 7) (.t 20)),vI 8 21,vI 9 22])
 (.seq (.seq (.ops [vI 23 9,iI 24 (.eqN .iface false (.t 23) (.c .nilIface)),vI 25 24,jI 26 (.loadN 172 (.t 7)) 25 true,jI 27 (.call 36 [(.t 26)]) 25 true,jI 28 (.not (.t 27)) 25 true,iI 29 (.pick (.t 25) (.t 28) (.c (.bool false)))])
 (.cond (.t 29) (.ops [iI 30 (.mki 78 (.c (.int .i64 8))),vI 9 30]) .skip))
 (.seq (.seq (.ops [vI 31 9,iI 32 (.eqN .iface true (.t 31) (.c .nilIface))])
 (.cond (.t 32) (.seq (.ops [iI 33 (.bld zl0 []),vI 34 9,iI 35 (.call 33 [(.c (.string ⟨#[109,111,100,101,108]⟩)),(.t 34)]),sI (.store 172 (.t 4) (.t 33)),iI 5 (.mv (.c (.slice none 0 0))),vI 6 35])
 .ret) .skip))
 (.seq (.ops [iI 36 (.loadN 172 (.t 7)),vI 37 8,sI (.store 172 (.t 4) (.t 36)),vI 5 37,iI 6 (.mv (.c .nilIface))])
 .ret))))))
def r18:List RV:=[.cell 4 172 true,.t 5,.t 6]
theorem fn18:cFn Tryz.prog 18=some (c18,r18,38):=by kernel_rfl
def c19:MC:=
 (.seq (.ops [iI 1 (.box (.t 0)),iI 2 (.alloc [(.string ⟨#[]⟩),(.int .i64 0),(.int .i64 0),(.int .i64 0)])])
 (.seq (.ops [iI 3 (.fadd 0 (.t 1)),iI 4 (.load1 (.t 3)),iI 5 (.fadd 1 (.t 1)),iI 6 (.load1 (.t 5)),iI 7 (.fadd 2 (.t 1)),iI 8 (.load1 (.t 7)),iI 9 (.fadd 3 (.t 1)),iI 10 (.load1 (.t 9)),iI 11 (.bld [(.string ⟨#[]⟩),(.int .i64 0),(.int .i64 0),(.int .i64 0)] [(0,1,(.t 4)),(1,1,(.t 6)),(2,1,(.t 8)),(3,1,(.t 10))]),sI (.store 4 (.t 2) (.t 11))])
 .ret))
def r19:List RV:=[.cell 2 4 true]
theorem fn19:cFn Tryz.prog 19=some (c19,r19,12):=by kernel_rfl
def c20:MC:=
 (.seq (.ops [iI 1 (.box (.t 0)),iI 2 (.mv (.c (.bool false)))])
 (.seq (.ops [iI 3 (.fadd 0 (.t 1)),iI 4 (.loadN 3 (.t 3)),iI 5 (.call 32 [(.t 4)]),vI 6 5,jI 7 (.loadN 172 (.t 1)) 6 true,jI 8 (.call 36 [(.t 7)]) 6 true,iI 9 (.pick (.t 6) (.t 8) (.c (.bool false))),vI 10 9,jI 11 (.loadN 172 (.t 1)) 10 true,jI 12 (.call 37 [(.t 11)]) 10 true,iI 13 (.pick (.t 10) (.t 12) (.c (.bool false))),vI 14 13,jI 15 (.loadN 172 (.t 1)) 14 true,jI 16 (.call 22 [(.t 15)]) 14 true,jI 17 (.call 21 [(.c (.slice none 0 0)),(.t 16)]) 14 true,iI 18 (.pick (.t 14) (.t 17) (.c (.bool false))),vI 2 18])
 .ret))
def r20:List RV:=[.t 2]
theorem fn20:cFn Tryz.prog 20=some (c20,r20,19):=by kernel_rfl
def c21:MC:=
 (.seq (.ops [iI 4 (.mv (.c (.bool false)))])
 (.seq (.seq (.ops [vI 11 1,iI 12 (.len false (.t 11)),iI 13 (.mv (.c (.int .i64 0)))])
 (.block 0 (.loop (.seq (.ops [iI 14 (.bin .lss (.t 13) (.t 12))])
 (.seq (.cond (.t 14) .skip (.exit 0))
 (.seq (.block 1 (.seq (.ops [vI 15 13,iI 16 (.iaS 1 (.t 11) (.t 13)),iI 17 (.load1 (.t 16)),vI 5 15,vI 6 17])
 (.seq (.ops [vI 18 1,vI 19 5,iI 20 (.slc 1 (.t 18) none (some (.t 19)) none),iI 21 (.len false (.t 20)),iI 22 (.mv (.c (.int .i64 0)))])
 (.block 2 (.loop (.seq (.ops [iI 23 (.bin .lss (.t 22) (.t 21))])
 (.seq (.cond (.t 23) .skip (.exit 2))
 (.seq (.block 3 (.seq (.ops [vI 24 22,iI 25 (.iaS 1 (.t 20) (.t 22)),iI 26 (.load1 (.t 25)),vI 7 24,vI 8 26])
 (.seq (.ops [vI 27 0,vI 28 5,iI 29 (.call 38 [(.t 27),(.t 28)]),vI 30 0,vI 31 7,iI 32 (.call 38 [(.t 30),(.t 31)]),vI 9 29,vI 10 32])
 (.seq (.ops [vI 33 6,iI 34 (.bin .neq (.t 33) (.c (.int .i64 (-1)))),vI 35 34,uI 36 6 35 true,uI 37 8 35 true,jI 38 (.bin .eql (.t 36) (.t 37)) 35 true,iI 39 (.pick (.t 35) (.t 38) (.c (.bool false))),vI 40 39,uI 41 6 40 false,jI 42 (.bin .neq (.t 41) (.c (.int .i64 (-1)))) 40 false,uI 43 42 40 false,uI 44 8 43 true,jI 45 (.bin .neq (.t 44) (.c (.int .i64 (-1)))) 43 true,jI 46 (.pick (.t 43) (.t 45) (.c (.bool false))) 40 false,uI 47 46 40 false,uI 48 6 47 true,uI 49 10 47 true,jI 50 (.bin .eql (.t 48) (.t 49)) 47 true,jI 51 (.pick (.t 47) (.t 50) (.c (.bool false))) 40 false,uI 52 51 40 false,uI 53 8 52 true,uI 54 9 52 true,jI 55 (.bin .eql (.t 53) (.t 54)) 52 true,jI 56 (.pick (.t 52) (.t 55) (.c (.bool false))) 40 false,uI 57 56 40 false,uI 58 6 57 true,uI 59 9 57 true,jI 60 (.bin .neq (.t 58) (.t 59)) 57 true,jI 61 (.pick (.t 57) (.t 60) (.c (.bool false))) 40 false,iI 62 (.pick (.t 40) (.c (.bool true)) (.t 61))])
 (.cond (.t 62) (.seq (.ops [iI 4 (.mv (.c (.bool false)))])
 .ret) .skip)))))
 (.ops [iI 63 (.bin .add (.t 22) (.c (.int .i64 1))),vI 22 63])))))))))
 (.ops [iI 64 (.bin .add (.t 13) (.c (.int .i64 1))),vI 13 64])))))))
 (.seq (.ops [iI 4 (.mv (.c (.bool true)))])
 .ret)))
def r21:List RV:=[.t 4]
theorem fn21:cFn Tryz.prog 21=some (c21,r21,65):=by kernel_rfl
def c22:MC:=
 (.seq (.ops [iI 1 (.box (.t 0)),iI 2 (.mv (.c (.slice none 0 0)))])
 (.seq (.ops [iI 3 (.mv (.c (.slice none 0 0)))])
 (.seq (.seq (.ops [iI 6 (.fadd 12 (.t 1)),iI 7 (.loadN 70 (.t 6)),iI 8 (.mv (.c (.int .i64 0)))])
 (.block 0 (.loop (.seq (.ops [iI 9 (.bin .lss (.t 8) (.c (.int .i64 10)))])
 (.seq (.cond (.t 9) .skip (.exit 0))
 (.seq (.block 1 (.seq (.ops [vI 10 8,iI 11 (.idxA 10 7 true (.t 7) (.t 8)),iI 5 (.alloc [(.int .i64 0),(.int .i64 0),(.int .i64 0),(.int .i64 0),(.int .i64 0),(.int .i64 0),(.int .i64 0)]),vI 4 10,sI (.store 7 (.t 5) (.t 11))])
 (.seq (.ops [vI 12 4,iI 13 (.fadd 82 (.t 1)),iI 14 (.iaA 10 1 (.t 13) (.t 12)),iI 15 (.load1 (.t 14))])
 (.cond (.t 15) (.ops [vI 16 3,iI 17 (.fadd 0 (.t 5)),iI 18 (.load1 (.t 17)),iI 19 (.bsl 1 1 [(.int .i64 0)] [(0,(.t 18))]),iI 20 (.app 1 8 (.t 16) (.t 19)),vI 3 20]) (.ops [vI 21 3,iI 22 (.bsl 1 1 [(.int .i64 0)] [(0,(.c (.int .i64 (-1))))]),iI 23 (.app 1 8 (.t 21) (.t 22)),vI 3 23])))))
 (.ops [iI 24 (.bin .add (.t 8) (.c (.int .i64 1))),vI 8 24])))))))
 (.seq (.ops [vI 25 3,vI 2 25])
 .ret))))
def r22:List RV:=[.t 2]
theorem fn22:cFn Tryz.prog 22=some (c22,r22,26):=by kernel_rfl
def c23:MC:=
 (.seq (.ops [iI 2 (.box (.t 0)),iI 3 (.box (.t 1)),iI 4 (.mv (.c (.slice none 0 0)))])
 (.seq (.ops [iI 5 (.mv (.c (.slice none 0 0)))])
 (.seq (.seq (.ops [iI 6 (.mv (.c (.int .i64 0)))])
 (.block 0 (.loop (.seq (.seq (.ops [vI 7 6,iI 8 (.fadd 2 (.t 2)),iI 9 (.load1 (.t 8)),iI 10 (.len true (.t 9)),iI 11 (.bin .lss (.t 7) (.t 10))])
 (.cond (.t 11) .skip (.exit 0)))
 (.seq (.block 1 (.seq (.ops [iI 14 (.fadd 2 (.t 2)),iI 15 (.load1 (.t 14)),vI 16 6,iI 17 (.idxS (.t 15) (.t 16)),iI 18 (.bin .eql (.t 17) (.c (.int .u8 67))),vI 19 18,jI 20 (.loadN 8 (.t 3)) 19 true,uI 21 6 19 true,jI 22 (.call 39 [(.t 20),(.t 21)]) 19 true,jI 23 (.not (.t 22)) 19 true,iI 24 (.pick (.t 19) (.t 23) (.c (.bool false)))])
 (.cond (.t 24) (.ops [vI 25 5,vI 26 6,iI 27 (.bsl 1 1 [(.int .i64 0)] [(0,(.t 26))]),iI 28 (.app 1 8 (.t 25) (.t 27)),vI 5 28]) .skip)))
 (.ops [vI 12 6,iI 13 (.bin .add (.t 12) (.c (.int .i64 1))),vI 6 13]))))))
 (.seq (.ops [vI 29 5,vI 4 29])
 .ret))))
def r23:List RV:=[.t 4]
theorem fn23:cFn Tryz.prog 23=some (c23,r23,30):=by kernel_rfl
def c24:MC:=
 (.seq (.ops [iI 6 (.mv (.c (.bool false)))])
 (.seq (.seq (.dops [dI (vI 7 1) 0,dI (vI 8 0) 1,dI (iI 9 (.bin .quo (.t 7) (.t 8))) 2,dI (vI 10 2) 3,dI (vI 11 0) 4,dI (iI 12 (.bin .quo (.t 10) (.t 11))) 5,dI (iI 13 (.bin .eql (.t 9) (.t 12))) 6])
 (.cond (.t 13) (.seq (.ops [vI 14 1,vI 15 2,iI 16 (.bin .add (.t 15) (.c (.int .i64 1))),iI 17 (.bin .eql (.t 14) (.t 16)),vI 18 17,uI 19 2 18 false,uI 20 1 18 false,jI 21 (.bin .add (.t 20) (.c (.int .i64 1))) 18 false,jI 22 (.bin .eql (.t 19) (.t 21)) 18 false,iI 23 (.pick (.t 18) (.c (.bool true)) (.t 22)),vI 6 23])
 .ret) .skip))
 (.seq (.ops [vI 24 1,vI 25 2,vI 26 0,iI 27 (.bin .add (.t 25) (.t 26)),iI 28 (.bin .eql (.t 24) (.t 27)),vI 29 28,uI 30 2 29 false,uI 31 1 29 false,uI 32 0 29 false,jI 33 (.bin .add (.t 31) (.t 32)) 29 false,jI 34 (.bin .eql (.t 30) (.t 33)) 29 false,iI 35 (.pick (.t 29) (.c (.bool true)) (.t 34)),vI 6 35])
 .ret)))
def r24:List RV:=[.t 6]
theorem fn24:cFn Tryz.prog 24=some (c24,r24,36):=by kernel_rfl
def c25:MC:=
 (.seq (.ops [iI 4 (.box (.t 0)),iI 8 (.mv (.c (.int .i64 0)))])
 (.seq (.seq (.ops [iI 9 (.loadN 3 (.t 4)),iI 10 (.call 16 [(.t 9)]),iI 11 (.not (.t 10)),vI 12 11,uI 13 3 12 false,jI 14 (.bin .lss (.t 13) (.c (.int .i64 1))) 12 false,iI 15 (.pick (.t 12) (.c (.bool true)) (.t 14)),vI 16 15,uI 17 3 16 false,jI 18 (.bin .gtr (.t 17) (.c (.int .i64 100))) 16 false,iI 19 (.pick (.t 16) (.c (.bool true)) (.t 18)),vI 20 19,uI 21 1 20 false,jI 22 (.len false (.t 21)) 20 false,jI 23 (.bin .gtr (.t 22) (.c (.int .i64 64))) 20 false,iI 24 (.pick (.t 20) (.c (.bool true)) (.t 23)),vI 25 24,uI 26 2 25 false,jI 27 (.bin .lss (.t 26) (.c (.int .i64 0))) 25 false,iI 28 (.pick (.t 25) (.c (.bool true)) (.t 27)),vI 29 28,uI 30 2 29 false,jI 31 (.fadd 2 (.t 4)) 29 false,jI 32 (.load1 (.t 31)) 29 false,jI 33 (.len true (.t 32)) 29 false,jI 34 (.bin .geq (.t 30) (.t 33)) 29 false,iI 35 (.pick (.t 29) (.c (.bool true)) (.t 34))])
 (.cond (.t 35) (.seq (.ops [iI 8 (.mv (.c (.int .i64 (-1))))])
 .ret) .skip))
 (.seq (.ops [iI 36 (.loadN 3 (.t 4)),vI 37 1,vI 38 3,iI 39 (.call 40 [(.t 36),(.t 37),(.t 38)]),vI 40 2,iI 41 (.iaS 1 (.t 39) (.t 40)),iI 42 (.load1 (.t 41)),vI 8 42])
 .ret)))
def r25:List RV:=[.t 8]
theorem fn25:cFn Tryz.prog 25=some (c25,r25,43):=by kernel_rfl
def c26:MC:=
 (.seq (.ops [iI 2 (.box (.t 0)),iI 4 (.mv (.c (.slice none 0 0)))])
 (.seq (.seq (.ops [iI 7 (.loadN 3 (.t 2)),iI 8 (.call 32 [(.t 7)]),iI 9 (.not (.t 8))])
 (.cond (.t 9) (.seq (.ops [iI 4 (.mv (.c (.slice none 0 0)))])
 .ret) .skip))
 (.seq (.ops [iI 5 (.mv (.c (.slice none 0 0)))])
 (.seq (.seq (.ops [iI 10 (.fadd 2 (.t 2)),iI 11 (.load1 (.t 10)),iI 12 (.len true (.t 11)),iI 13 (.mv (.c (.int .i64 0)))])
 (.block 0 (.loop (.seq (.ops [iI 14 (.bin .lss (.t 13) (.t 12))])
 (.seq (.cond (.t 14) .skip (.exit 0))
 (.seq (.block 1 (.seq (.ops [vI 15 13,vI 6 15])
 (.seq (.ops [iI 16 (.fadd 2 (.t 2)),iI 17 (.load1 (.t 16)),vI 18 6,iI 19 (.idxS (.t 17) (.t 18)),vI 20 1,iI 21 (.bin .eql (.t 19) (.t 20))])
 (.cond (.t 21) (.ops [vI 22 5,vI 23 6,iI 24 (.bsl 1 1 [(.int .i64 0)] [(0,(.t 23))]),iI 25 (.app 1 8 (.t 22) (.t 24)),vI 5 25]) .skip))))
 (.ops [iI 26 (.bin .add (.t 13) (.c (.int .i64 1))),vI 13 26])))))))
 (.seq (.ops [vI 27 5,vI 4 27])
 .ret)))))
def r26:List RV:=[.t 4]
theorem fn26:cFn Tryz.prog 26=some (c26,r26,28):=by kernel_rfl
def c27:MC:=
 (.seq (.ops [iI 4 (.box (.t 0)),iI 8 (.mv (.c (.int .i64 0))),iI 9 (.mv (.c (.bool false)))])
 (.seq (.ops [iI 13 (.loadN 3 (.t 4)),vI 14 1,vI 15 3,iI 16 (.call 41 [(.t 13),(.t 14),(.t 15)]),vI 12 16,iI 17 (.ext (.t 12) 0),iI 18 (.ext (.t 12) 1),vI 10 17,vI 11 18])
 (.seq (.seq (.ops [vI 19 11,iI 20 (.eqN .iface true (.t 19) (.c .nilIface)),vI 21 20,jI 22 (.loadN 3 (.t 4)) 21 false,uI 23 2 21 false,jI 24 (.call 42 [(.t 22),(.t 23)]) 21 false,jI 25 (.not (.t 24)) 21 false,iI 26 (.pick (.t 21) (.c (.bool true)) (.t 25)),vI 27 26,uI 28 10 27 false,uI 29 2 27 false,jI 30 (.iaS 1 (.t 28) (.t 29)) 27 false,jI 31 (.load1 (.t 30)) 27 false,jI 32 (.bin .lss (.t 31) (.c (.int .i64 0))) 27 false,iI 33 (.pick (.t 27) (.c (.bool true)) (.t 32))])
 (.cond (.t 33) (.seq (.ops [iI 8 (.mv (.c (.int .i64 0))),iI 9 (.mv (.c (.bool false)))])
 .ret) .skip))
 (.seq (.ops [vI 34 10,vI 35 2,iI 36 (.iaS 1 (.t 34) (.t 35)),iI 37 (.load1 (.t 36)),vI 8 37,iI 9 (.mv (.c (.bool true)))])
 .ret))))
def r27:List RV:=[.t 8,.t 9]
theorem fn27:cFn Tryz.prog 27=some (c27,r27,38):=by kernel_rfl
def c28:MC:=
 (.seq (.ops [iI 2 (.box (.t 0)),iI 4 (.alloc zl0)])
 (.seq (.seq (.ops [iI 5 (.mv (.c (.int .i64 0)))])
 (.block 0 (.loop (.seq (.seq (.ops [vI 9 5,vI 10 1,iI 11 (.len false (.t 10)),iI 12 (.bin .lss (.t 9) (.t 11))])
 (.cond (.t 12) .skip (.exit 0)))
 (.seq (.block 1 (.seq (.dops [dI (iI 16 (.loadN 172 (.t 2))) 0,dI (vI 17 1) 1,dI (vI 18 5) 2,dI (iI 19 (.iaS 4 (.t 17) (.t 18))) 3,dI (iI 20 (.loadN 4 (.t 19))) 4,qI (iI 21 (.call 19 [(.t 20)])) 5,pI (iI 22 (.call 18 [(.t 16),(.t 21)])) 6,dI (vI 15 22) 7,dI (iI 23 (.ext (.t 15) 0)) 8,dI (iI 24 (.ext (.t 15) 1)) 9,dI (iI 25 (.ext (.t 15) 2)) 10,qI (iI 6 (.alloc zl0)) 11,pI (sI (.store 172 (.t 6) (.t 23))) 12,dI (vI 7 24) 13,dI (vI 8 25) 14])
 (.seq (.ops [vI 26 8,iI 27 (.call 17 [(.t 26)]),iI 28 (.bin .eql (.t 27) (.c (.int .i64 0)))])
 (.cond (.t 28) (.ops [iI 29 (.loadN 172 (.t 6)),sI (.store 172 (.t 2) (.t 29))]) .skip))))
 (.ops [vI 13 5,iI 14 (.bin .add (.t 13) (.c (.int .i64 1))),vI 5 14]))))))
 (.seq (.ops [iI 30 (.loadN 172 (.t 2)),sI (.store 172 (.t 4) (.t 30))])
 .ret)))
def r28:List RV:=[.cell 4 172 true]
theorem fn28:cFn Tryz.prog 28=some (c28,r28,31):=by kernel_rfl
def c29:MC:=
 (.seq (.ops [iI 3 (.mv (.c (.bool false)))])
 (.seq (.ops [vI 4 0,iI 5 (.bin .geq (.t 4) (.c (.int .i64 0))),vI 6 5,uI 7 0 6 true,jI 8 (.fadd 2 (.t 1)) 6 true,jI 9 (.load1 (.t 8)) 6 true,jI 10 (.len true (.t 9)) 6 true,jI 11 (.bin .lss (.t 7) (.t 10)) 6 true,iI 12 (.pick (.t 6) (.t 11) (.c (.bool false))),vI 13 12,jI 14 (.fadd 2 (.t 1)) 13 true,jI 15 (.load1 (.t 14)) 13 true,uI 16 0 13 true,jI 17 (.idxS (.t 15) (.t 16)) 13 true,jI 18 (.bin .neq (.t 17) (.c (.int .u8 35))) 13 true,iI 19 (.pick (.t 13) (.t 18) (.c (.bool false))),vI 3 19])
 .ret))
def r29:List RV:=[.t 3]
theorem fn29:cFn Tryz.prog 29=some (c29,r29,20):=by kernel_rfl
def c30:MC:=
 (.seq (.ops [iI 2 (.mv (.c (.int .i64 0)))])
 (.seq (.ops [iI 5 (.bsl 1 6 [(.string ⟨#[]⟩)] [(0,(.c (.string ⟨#[114,111,98,111,116]⟩))),(1,(.c (.string ⟨#[116,97,115,107]⟩))),(2,(.c (.string ⟨#[111,102,102]⟩))),(3,(.c (.string ⟨#[111,110]⟩))),(4,(.c (.string ⟨#[116,101,108,108]⟩))),(5,(.c (.string ⟨#[116,105,99,107]⟩)))]),vI 3 5])
 (.seq (.seq (.ops [iI 4 (.mv (.c (.int .i64 0)))])
 (.block 0 (.loop (.seq (.seq (.ops [vI 6 4,vI 7 3,iI 8 (.len false (.t 7)),iI 9 (.bin .lss (.t 6) (.t 8))])
 (.cond (.t 9) .skip (.exit 0)))
 (.seq (.block 1 (.seq (.ops [vI 12 3,vI 13 4,iI 14 (.iaS 1 (.t 12) (.t 13)),iI 15 (.load1 (.t 14)),vI 16 0,iI 17 (.bin .eql (.t 15) (.t 16))])
 (.cond (.t 17) (.seq (.ops [vI 18 4,iI 19 (.bin .add (.t 18) (.c (.int .i64 1))),vI 2 19])
 .ret) .skip)))
 (.ops [vI 10 4,iI 11 (.bin .add (.t 10) (.c (.int .i64 1))),vI 4 11]))))))
 (.seq (.ops [iI 2 (.mv (.c (.int .i64 0)))])
 .ret))))
def r30:List RV:=[.t 2]
theorem fn30:cFn Tryz.prog 30=some (c30,r30,20):=by kernel_rfl
def c31:MC:=
 (.seq (.ops [iI 4 (.mv (.c (.bool false)))])
 (.seq (.ops [vI 5 1,iI 6 (.bin .eql (.t 5) (.c (.int .i64 (-1)))),vI 7 6,uI 8 0 7 false,uI 9 1 7 false,jI 10 (.call 43 [(.t 8),(.t 9)]) 7 false,jI 11 (.not (.t 10)) 7 false,iI 12 (.pick (.t 7) (.c (.bool true)) (.t 11)),vI 4 12])
 .ret))
def r31:List RV:=[.t 4]
theorem fn31:cFn Tryz.prog 31=some (c31,r31,13):=by kernel_rfl
def c32:MC:=
 (.seq (.ops [iI 1 (.box (.t 0)),iI 2 (.mv (.c (.bool false)))])
 (.seq (.seq (.ops [iI 4 (.loadN 3 (.t 1)),iI 5 (.call 44 [(.t 4)]),iI 6 (.not (.t 5))])
 (.cond (.t 6) (.seq (.ops [iI 2 (.mv (.c (.bool false)))])
 .ret) .skip))
 (.seq (.ops [iI 7 (.fadd 2 (.t 1)),iI 8 (.load1 (.t 7)),iI 9 (.call 45 [(.t 8),(.c (.string ⟨#[67]⟩))]),vI 3 9])
 (.seq (.dops [dI (vI 10 3) 0,dI (iI 11 (.bin .geq (.t 10) (.c (.int .i64 0)))) 1,dI (vI 12 11) 2,dI (jI 13 (.loadN 3 (.t 1)) 12 true) 3,dI (uI 14 3 12 true) 4,dI (jI 16 (.fadd 2 (.t 1)) 12 true) 6,dI (jI 17 (.load1 (.t 16)) 12 true) 7,dI (jI 18 (.len true (.t 17)) 12 true) 8,dI (jI 19 (.fadd 2 (.t 1)) 12 true) 9,dI (jI 20 (.load1 (.t 19)) 12 true) 10,qI (jI 15 (.call 46 [(.t 13),(.t 14)]) 12 true) 5,qI (jI 21 (.call 47 [(.t 20),(.c (.string ⟨#[35]⟩))]) 12 true) 11,dI (jI 22 (.bin .sub (.t 18) (.t 21)) 12 true) 12,dI (jI 23 (.bin .eql (.t 15) (.t 22)) 12 true) 13,dI (iI 24 (.pick (.t 12) (.t 23) (.c (.bool false)))) 14,dI (vI 2 24) 15])
 .ret))))
def r32:List RV:=[.t 2]
theorem fn32:cFn Tryz.prog 32=some (c32,r32,25):=by kernel_rfl
def c33:MC:=
 (.seq (.ops [iI 4 (.mv (.c .nilIface))])
 (.seq (.seq (.ops [vI 5 1,iI 6 (.eqN .iface false (.t 5) (.c .nilIface))])
 (.cond (.t 6) (.seq (.ops [iI 4 (.mv (.c .nilIface))])
 .ret) .skip))
 (.seq (.ops [vI 7 0,vI 8 1,iI 9 (.bld [(.string ⟨#[]⟩),.nilIface] [(0,1,(.t 7)),(1,1,(.t 8))]),iI 10 (.box (.t 9)),iI 11 (.mki 92 (.t 10)),vI 4 11])
 .ret)))
def r33:List RV:=[.t 4]
theorem fn33:cFn Tryz.prog 33=some (c33,r33,12):=by kernel_rfl
def c35:MC:=
 (.seq (.ops [iI 2 (.box (.t 0)),iI 3 (.box (.t 1)),iI 4 (.alloc zl0),iI 5 (.mv (.c (.slice none 0 0))),iI 6 (.mv (.c .nilIface))])
 (.seq (.ops [iI 7 (.mv (.c .nilIface))])
 (.seq (.ops [iI 8 (.mv (.c (.bool false)))])
 (.seq (.seq (.ops [iI 11 (.fadd 0 (.t 3)),iI 12 (.load1 (.t 11))])
 (.block 0 (.seq (.block 7 (.seq (.block 6 (.seq (.block 5 (.seq (.block 4 (.seq (.block 3 (.seq (.block 2 (.seq (.block 1 (.seq (.seq (.seq (.ops [iI 14 (.bin .eql (.t 12) (.c (.string ⟨#[114,111,98,111,116]⟩))),vI 13 14])
 (.cond (.t 13) (.exit 1) .skip))
 (.seq (.seq (.ops [iI 16 (.bin .eql (.t 12) (.c (.string ⟨#[116,97,115,107]⟩))),vI 15 16])
 (.cond (.t 15) (.exit 2) .skip))
 (.seq (.seq (.ops [iI 18 (.bin .eql (.t 12) (.c (.string ⟨#[116,101,108,108]⟩))),vI 17 18])
 (.cond (.t 17) (.exit 3) .skip))
 (.seq (.seq (.ops [iI 20 (.bin .eql (.t 12) (.c (.string ⟨#[111,102,102]⟩))),vI 19 20])
 (.cond (.t 19) (.exit 4) .skip))
 (.seq (.seq (.ops [iI 22 (.bin .eql (.t 12) (.c (.string ⟨#[111,110]⟩))),vI 21 22])
 (.cond (.t 21) (.exit 5) .skip))
 (.seq (.ops [iI 24 (.bin .eql (.t 12) (.c (.string ⟨#[116,105,99,107]⟩))),vI 23 24])
 (.cond (.t 23) (.exit 6) .skip)))))))
 (.exit 7)))
 (.seq (.ops [iI 26 (.loadN 172 (.t 2)),iI 27 (.loadN 4 (.t 3)),iI 28 (.call 52 [(.t 26),(.t 27)]),vI 25 28,iI 29 (.ext (.t 25) 0),iI 30 (.ext (.t 25) 1),sI (.store 172 (.t 2) (.t 29)),vI 7 30])
 (.exit 0))))
 (.seq (.ops [iI 32 (.loadN 172 (.t 2)),iI 33 (.loadN 4 (.t 3)),iI 34 (.call 53 [(.t 32),(.t 33)]),vI 31 34,iI 35 (.ext (.t 31) 0),iI 36 (.ext (.t 31) 1),sI (.store 172 (.t 2) (.t 35)),vI 7 36])
 (.exit 0))))
 (.seq (.ops [iI 38 (.loadN 172 (.t 2)),iI 39 (.loadN 4 (.t 3)),iI 40 (.call 54 [(.t 38),(.t 39)]),vI 37 40,iI 41 (.ext (.t 37) 0),iI 42 (.ext (.t 37) 1),sI (.store 172 (.t 2) (.t 41)),vI 7 42])
 (.exit 0))))
 (.ops [iI 8 (.mv (.c (.bool true)))])))
 (.seq (.seq (.seq (.dops [dI (iI 43 (.fadd 0 (.t 2))) 0,dI (iI 44 (.loadN 3 (.t 43))) 1,dI (iI 46 (.fadd 2 (.t 3))) 3,dI (iI 47 (.load1 (.t 46))) 4,qI (iI 45 (.call 26 [(.t 44),(.c (.int .u8 67))])) 2,pI (iI 48 (.call 43 [(.t 45),(.t 47)])) 5,dI (iI 49 (.not (.t 48))) 6])
 (.cond (.t 49) (.seq (.ops [iI 50 (.loadN 172 (.t 2)),iI 51 (.mki 78 (.c (.int .i64 1))),sI (.store 172 (.t 4) (.t 50)),iI 5 (.mv (.c (.slice none 0 0))),vI 6 51])
 .ret) .skip))
 (.ops [iI 52 (.fadd 3 (.t 2)),iI 53 (.fadd 1 (.t 52)),iI 54 (.loadN 8 (.t 53)),iI 55 (.fadd 2 (.t 3)),iI 56 (.load1 (.t 55)),vI 57 8,iI 58 (.call 55 [(.t 54),(.t 56),(.t 57)]),iI 59 (.fadd 3 (.t 2)),iI 60 (.fadd 1 (.t 59)),sI (.store 8 (.t 60) (.t 58))]))
 (.exit 0))))
 (.seq (.seq (.ops [iI 62 (.loadN 172 (.t 2)),iI 63 (.call 56 [(.t 62)]),vI 61 63,iI 64 (.ext (.t 61) 0),iI 65 (.ext (.t 61) 1),iI 9 (.alloc zl0),sI (.store 172 (.t 9) (.t 64)),vI 10 65])
 (.seq (.ops [iI 66 (.loadN 172 (.t 9)),vI 67 10,sI (.store 172 (.t 4) (.t 66)),vI 5 67,iI 6 (.mv (.c .nilIface))])
 .ret))
 (.exit 0))))
 (.seq (.ops [iI 68 (.mki 78 (.c (.int .i64 1))),vI 7 68])
 (.exit 0)))))
 (.seq (.ops [iI 69 (.loadN 172 (.t 2)),vI 70 7,sI (.store 172 (.t 4) (.t 69)),iI 5 (.mv (.c (.slice none 0 0))),vI 6 70])
 .ret)))))
def r35:List RV:=[.cell 4 172 true,.t 5,.t 6]
theorem fn35:cFn Tryz.prog 35=some (c35,r35,71):=by kernel_rfl
def c36:MC:=
 (.seq (.ops [iI 1 (.box (.t 0)),iI 2 (.mv (.c (.bool false)))])
 (.seq (.ops [iI 15 (.fadd 3 (.t 1)),iI 16 (.loadN 9 (.t 15)),iI 17 (.call 57 [(.t 16)]),vI 14 17,iI 18 (.ext (.t 14) 0),iI 19 (.ext (.t 14) 1),vI 3 18,vI 4 19])
 (.seq (.ops [vI 20 4,iI 21 (.eqN .iface false (.t 20) (.c .nilIface)),vI 5 21])
 (.seq (.seq (.ops [iI 22 (.fadd 12 (.t 1)),iI 23 (.loadN 70 (.t 22)),iI 24 (.mv (.c (.int .i64 0)))])
 (.block 0 (.loop (.seq (.ops [iI 25 (.bin .lss (.t 24) (.c (.int .i64 10)))])
 (.seq (.cond (.t 25) .skip (.exit 0))
 (.seq (.block 1 (.seq (.ops [vI 26 24,iI 27 (.idxA 10 7 true (.t 23) (.t 24)),iI 7 (.alloc [(.int .i64 0),(.int .i64 0),(.int .i64 0),(.int .i64 0),(.int .i64 0),(.int .i64 0),(.int .i64 0)]),vI 6 26,sI (.store 7 (.t 7) (.t 27))])
 (.seq (.ops [iI 29 (.loadN 7 (.t 7)),iI 30 (.call 58 [(.t 29)]),vI 28 30,iI 31 (.ext (.t 28) 0),iI 32 (.ext (.t 28) 1),vI 8 31,vI 9 32])
 (.ops [vI 33 5,vI 34 33,uI 35 6 34 true,jI 36 (.fadd 82 (.t 1)) 34 true,jI 37 (.iaA 10 1 (.t 36) (.t 35)) 34 true,jI 38 (.load1 (.t 37)) 34 true,uI 39 38 34 true,uI 40 9 39 true,jI 41 (.eqN .iface false (.t 40) (.c .nilIface)) 39 true,jI 42 (.pick (.t 39) (.t 41) (.c (.bool false))) 34 true,uI 43 42 34 true,uI 44 6 43 false,jI 45 (.fadd 82 (.t 1)) 43 false,jI 46 (.iaA 10 1 (.t 45) (.t 44)) 43 false,jI 47 (.load1 (.t 46)) 43 false,jI 48 (.not (.t 47)) 43 false,uI 49 48 43 false,jI 50 (.loadN 7 (.t 7)) 49 true,jI 51 (.bld [(.int .i64 0),(.int .i64 0),(.int .i64 0),(.int .i64 0),(.int .i64 0),(.int .i64 0),(.int .i64 0)] []) 49 true,jI 52 (.eqA false [.int,.int,.int,.int,.int,.int,.int] (.t 50) (.t 51)) 49 true,jI 53 (.pick (.t 49) (.t 52) (.c (.bool false))) 43 false,jI 54 (.pick (.t 43) (.c (.bool true)) (.t 53)) 34 true,iI 55 (.pick (.t 34) (.t 54) (.c (.bool false))),vI 5 55]))))
 (.ops [iI 56 (.bin .add (.t 24) (.c (.int .i64 1))),vI 24 56])))))))
 (.seq (.seq (.ops [iI 57 (.fadd 92 (.t 1)),iI 58 (.loadN 60 (.t 57)),iI 59 (.mv (.c (.int .i64 0)))])
 (.block 2 (.loop (.seq (.ops [iI 60 (.bin .lss (.t 59) (.c (.int .i64 20)))])
 (.seq (.cond (.t 60) .skip (.exit 2))
 (.seq (.block 3 (.seq (.ops [vI 61 59,iI 62 (.idxA 20 3 true (.t 58) (.t 59)),iI 11 (.alloc [(.int .i64 0),(.int .i64 0),(.int .i64 0)]),vI 10 61,sI (.store 3 (.t 11) (.t 62))])
 (.seq (.ops [iI 64 (.loadN 3 (.t 11)),iI 65 (.call 59 [(.t 64)]),vI 63 65,iI 66 (.ext (.t 63) 0),iI 67 (.ext (.t 63) 1),vI 12 66,vI 13 67])
 (.ops [vI 68 5,vI 69 68,uI 70 10 69 true,jI 71 (.fadd 152 (.t 1)) 69 true,jI 72 (.iaA 20 1 (.t 71) (.t 70)) 69 true,jI 73 (.load1 (.t 72)) 69 true,uI 74 73 69 true,uI 75 13 74 true,jI 76 (.eqN .iface false (.t 75) (.c .nilIface)) 74 true,jI 77 (.pick (.t 74) (.t 76) (.c (.bool false))) 69 true,uI 78 77 69 true,uI 79 10 78 false,jI 80 (.fadd 152 (.t 1)) 78 false,jI 81 (.iaA 20 1 (.t 80) (.t 79)) 78 false,jI 82 (.load1 (.t 81)) 78 false,jI 83 (.not (.t 82)) 78 false,uI 84 83 78 false,jI 85 (.loadN 3 (.t 11)) 84 true,jI 86 (.bld [(.int .i64 0),(.int .i64 0),(.int .i64 0)] []) 84 true,jI 87 (.eqA false [.int,.int,.int] (.t 85) (.t 86)) 84 true,jI 88 (.pick (.t 84) (.t 87) (.c (.bool false))) 78 false,jI 89 (.pick (.t 78) (.c (.bool true)) (.t 88)) 69 true,iI 90 (.pick (.t 69) (.t 89) (.c (.bool false))),vI 5 90]))))
 (.ops [iI 91 (.bin .add (.t 59) (.c (.int .i64 1))),vI 59 91])))))))
 (.seq (.ops [vI 92 5,vI 2 92])
 .ret))))))
def r36:List RV:=[.t 2]
theorem fn36:cFn Tryz.prog 36=some (c36,r36,93):=by kernel_rfl
def c37:MC:=
 (.seq (.ops [iI 1 (.box (.t 0)),iI 2 (.mv (.c (.bool false)))])
 (.seq (.ops [iI 3 (.alloc (List.replicate 20 (.int .i64 0)))])
 (.seq (.seq (.ops [iI 9 (.fadd 12 (.t 1)),iI 10 (.loadN 70 (.t 9)),iI 11 (.mv (.c (.int .i64 0)))])
 (.block 0 (.loop (.seq (.ops [iI 12 (.bin .lss (.t 11) (.c (.int .i64 10)))])
 (.seq (.cond (.t 12) .skip (.exit 0))
 (.seq (.block 1 (.seq (.ops [vI 13 11,iI 14 (.idxA 10 7 true (.t 10) (.t 11)),iI 5 (.alloc [(.int .i64 0),(.int .i64 0),(.int .i64 0),(.int .i64 0),(.int .i64 0),(.int .i64 0),(.int .i64 0)]),vI 4 13,sI (.store 7 (.t 5) (.t 14))])
 (.block 2 (.seq (.ops [vI 16 4,iI 17 (.fadd 82 (.t 1)),iI 18 (.iaA 10 1 (.t 17) (.t 16)),iI 19 (.load1 (.t 18)),iI 20 (.not (.t 19)),vI 15 20])
 (.cond (.t 15) (.exit 1) (.seq (.ops [iI 22 (.fadd 0 (.t 1)),iI 23 (.loadN 3 (.t 22)),iI 24 (.fadd 0 (.t 5)),iI 25 (.load1 (.t 24)),iI 26 (.call 42 [(.t 23),(.t 25)]),iI 27 (.not (.t 26)),vI 28 27,jI 29 (.loadN 172 (.t 1)) 28 false,jI 30 (.loadN 7 (.t 5)) 28 false,jI 31 (.call 60 [(.t 29),(.t 30)]) 28 false,jI 32 (.not (.t 31)) 28 false,iI 33 (.pick (.t 28) (.c (.bool true)) (.t 32)),vI 21 33])
 (.cond (.t 21) (.seq (.ops [iI 2 (.mv (.c (.bool false)))])
 .ret) (.seq (.ops [iI 35 (.fadd 3 (.t 5)),iI 36 (.load1 (.t 35)),iI 37 (.bin .neq (.t 36) (.c (.int .i64 (-1)))),vI 34 37])
 (.cond (.t 34) (.ops [iI 38 (.fadd 3 (.t 5)),iI 39 (.load1 (.t 38)),iI 40 (.iaA 20 1 (.t 3) (.t 39)),iI 41 (.load1 (.t 40)),iI 42 (.bin .add (.t 41) (.c (.int .i64 1))),iI 43 (.iaA 20 1 (.t 3) (.t 39)),sI (.store 1 (.t 43) (.t 42))]) .skip)))))))))
 (.ops [iI 44 (.bin .add (.t 11) (.c (.int .i64 1))),vI 11 44])))))))
 (.seq (.seq (.ops [iI 45 (.fadd 92 (.t 1)),iI 46 (.loadN 60 (.t 45)),iI 47 (.mv (.c (.int .i64 0)))])
 (.block 3 (.loop (.seq (.ops [iI 48 (.bin .lss (.t 47) (.c (.int .i64 20)))])
 (.seq (.cond (.t 48) .skip (.exit 3))
 (.seq (.block 4 (.seq (.ops [vI 49 47,iI 50 (.idxA 20 3 true (.t 46) (.t 47)),iI 7 (.alloc [(.int .i64 0),(.int .i64 0),(.int .i64 0)]),vI 6 49,sI (.store 3 (.t 7) (.t 50))])
 (.seq (.ops [iI 8 (.mv (.c (.int .i64 0)))])
 (.seq (.seq (.ops [iI 51 (.fadd 2 (.t 7)),iI 52 (.load1 (.t 51)),iI 53 (.bin .eql (.t 52) (.c (.int .i64 1))),vI 54 53,jI 55 (.fadd 2 (.t 7)) 54 false,jI 56 (.load1 (.t 55)) 54 false,jI 57 (.bin .eql (.t 56) (.c (.int .i64 2))) 54 false,iI 58 (.pick (.t 54) (.c (.bool true)) (.t 57))])
 (.cond (.t 58) (.ops [iI 8 (.mv (.c (.int .i64 1)))]) .skip))
 (.seq (.ops [vI 59 6,iI 60 (.fadd 152 (.t 1)),iI 61 (.iaA 20 1 (.t 60) (.t 59)),iI 62 (.load1 (.t 61)),vI 63 62,uI 64 6 63 true,jI 65 (.iaA 20 1 (.t 3) (.t 64)) 63 true,jI 66 (.load1 (.t 65)) 63 true,uI 67 8 63 true,jI 68 (.bin .neq (.t 66) (.t 67)) 63 true,uI 69 68 63 true,jI 70 (.fadd 0 (.t 1)) 69 false,jI 71 (.loadN 3 (.t 70)) 69 false,jI 72 (.fadd 0 (.t 7)) 69 false,jI 73 (.load1 (.t 72)) 69 false,jI 74 (.call 42 [(.t 71),(.t 73)]) 69 false,jI 75 (.not (.t 74)) 69 false,jI 76 (.pick (.t 69) (.c (.bool true)) (.t 75)) 63 true,uI 77 76 63 true,jI 78 (.fadd 0 (.t 1)) 77 false,jI 79 (.loadN 3 (.t 78)) 77 false,jI 80 (.fadd 1 (.t 7)) 77 false,jI 81 (.load1 (.t 80)) 77 false,jI 82 (.call 42 [(.t 79),(.t 81)]) 77 false,jI 83 (.not (.t 82)) 77 false,jI 84 (.pick (.t 77) (.c (.bool true)) (.t 83)) 63 true,iI 85 (.pick (.t 63) (.t 84) (.c (.bool false)))])
 (.cond (.t 85) (.seq (.ops [iI 2 (.mv (.c (.bool false)))])
 .ret) .skip))))))
 (.ops [iI 86 (.bin .add (.t 47) (.c (.int .i64 1))),vI 47 86])))))))
 (.seq (.ops [iI 2 (.mv (.c (.bool true)))])
 .ret)))))
def r37:List RV:=[.t 2]
theorem fn37:cFn Tryz.prog 37=some (c37,r37,87):=by kernel_rfl
def c38:MC:=
 (.seq (.ops [iI 4 (.mv (.c (.int .i64 0)))])
 (.seq (.seq (.ops [vI 5 1,vI 6 0,iI 7 (.len false (.t 6)),iI 8 (.bin .geq (.t 5) (.t 7))])
 (.cond (.t 8) (.seq (.ops [iI 4 (.mv (.c (.int .i64 (-1))))])
 .ret) .skip))
 (.seq (.ops [vI 9 0,vI 10 1,iI 11 (.iaS 1 (.t 9) (.t 10)),iI 12 (.load1 (.t 11)),vI 4 12])
 .ret)))
def r38:List RV:=[.t 4]
theorem fn38:cFn Tryz.prog 38=some (c38,r38,13):=by kernel_rfl
def c39:MC:=
 (.seq (.ops [iI 2 (.box (.t 0)),iI 4 (.mv (.c (.bool false)))])
 (.seq (.ops [vI 7 1,iI 8 (.bin .quo (.t 7) (.c (.int .i64 8))),iI 9 (.iaA 8 1 (.t 2) (.t 8)),iI 10 (.load1 (.t 9)),vI 5 10])
 (.seq (.seq (.ops [iI 6 (.mv (.c (.int .i64 0)))])
 (.block 0 (.loop (.seq (.seq (.ops [vI 11 6,vI 12 1,iI 13 (.bin .rem (.t 12) (.c (.int .i64 8))),iI 14 (.bin .lss (.t 11) (.t 13))])
 (.cond (.t 14) .skip (.exit 0)))
 (.seq (.block 1 (.ops [vI 17 5,iI 18 (.bin .quo (.t 17) (.c (.int .u8 2))),vI 5 18]))
 (.ops [vI 15 6,iI 16 (.bin .add (.t 15) (.c (.int .i64 1))),vI 6 16]))))))
 (.seq (.ops [vI 19 5,iI 20 (.bin .rem (.t 19) (.c (.int .u8 2))),iI 21 (.bin .eql (.t 20) (.c (.int .u8 1))),vI 4 21])
 .ret))))
def r39:List RV:=[.t 4]
theorem fn39:cFn Tryz.prog 39=some (c39,r39,22):=by kernel_rfl
def c40:MC:=
 (.seq (.ops [iI 3 (.box (.t 0)),iI 6 (.mv (.c (.slice none 0 0)))])
 (.seq (.ops [iI 14 (.fadd 2 (.t 3)),iI 15 (.load1 (.t 14)),iI 16 (.len true (.t 15)),vI 7 16])
 (.seq (.ops [vI 17 7,iI 18 (.mks 1 8 [(.int .i64 0)] (.t 17) (.t 17)),vI 8 18])
 (.seq (.seq (.ops [iI 9 (.mv (.c (.int .i64 0)))])
 (.block 0 (.loop (.seq (.seq (.ops [vI 19 9,vI 20 7,iI 21 (.bin .lss (.t 19) (.t 20))])
 (.cond (.t 21) .skip (.exit 0)))
 (.seq (.block 1 (.seq (.ops [vI 24 8,vI 25 9,iI 26 (.iaS 1 (.t 24) (.t 25)),sI (.store 1 (.t 26) (.c (.int .i64 (-1))))])
 (.seq (.ops [iI 10 (.mv (.c (.int .i64 0)))])
 (.block 2 (.loop (.seq (.seq (.ops [vI 27 10,vI 28 1,iI 29 (.len false (.t 28)),iI 30 (.bin .lss (.t 27) (.t 29))])
 (.cond (.t 30) .skip (.exit 2)))
 (.seq (.block 3 (.seq (.ops [vI 33 1,vI 34 10,iI 35 (.iaS 1 (.t 33) (.t 34)),iI 36 (.load1 (.t 35)),vI 37 9,iI 38 (.bin .eql (.t 36) (.t 37)),vI 39 38,jI 40 (.fadd 2 (.t 3)) 39 true,jI 41 (.load1 (.t 40)) 39 true,uI 42 9 39 true,jI 43 (.idxS (.t 41) (.t 42)) 39 true,jI 44 (.bin .neq (.t 43) (.c (.int .u8 35))) 39 true,iI 45 (.pick (.t 39) (.t 44) (.c (.bool false)))])
 (.cond (.t 45) (.ops [vI 46 8,vI 47 9,iI 48 (.iaS 1 (.t 46) (.t 47)),sI (.store 1 (.t 48) (.c (.int .i64 0)))]) .skip)))
 (.ops [vI 31 10,iI 32 (.bin .add (.t 31) (.c (.int .i64 1))),vI 10 32]))))))))
 (.ops [vI 22 9,iI 23 (.bin .add (.t 22) (.c (.int .i64 1))),vI 9 23]))))))
 (.seq (.seq (.ops [iI 11 (.mv (.c (.int .i64 0)))])
 (.block 4 (.loop (.seq (.seq (.ops [vI 49 11,vI 50 7,iI 51 (.bin .lss (.t 49) (.t 50))])
 (.cond (.t 51) .skip (.exit 4)))
 (.seq (.block 5 (.seq (.ops [iI 12 (.mv (.c (.int .i64 0)))])
 (.block 6 (.loop (.seq (.seq (.ops [vI 54 12,vI 55 7,iI 56 (.bin .lss (.t 54) (.t 55))])
 (.cond (.t 56) .skip (.exit 6)))
 (.seq (.block 7 (.seq (.ops [iI 13 (.mv (.c (.int .i64 0)))])
 (.block 8 (.loop (.seq (.seq (.ops [vI 59 13,vI 60 7,iI 61 (.bin .lss (.t 59) (.t 60)),vI 62 61,jI 63 (.fadd 2 (.t 3)) 62 true,jI 64 (.load1 (.t 63)) 62 true,uI 65 12 62 true,jI 66 (.idxS (.t 64) (.t 65)) 62 true,jI 67 (.bin .neq (.t 66) (.c (.int .u8 35))) 62 true,iI 68 (.pick (.t 62) (.t 67) (.c (.bool false)))])
 (.cond (.t 68) .skip (.exit 8)))
 (.seq (.block 9 (.seq (.dops [dI (iI 71 (.fadd 0 (.t 3))) 0,dI (iI 72 (.load1 (.t 71))) 1,dI (vI 73 12) 2,dI (vI 74 13) 3,pI (iI 75 (.call 24 [(.t 72),(.t 73),(.t 74)])) 4,dI (vI 76 75) 5,dI (uI 77 8 76 true) 6,dI (uI 78 13 76 true) 7,dI (jI 79 (.iaS 1 (.t 77) (.t 78)) 76 true) 8,dI (jI 80 (.load1 (.t 79)) 76 true) 9,dI (jI 81 (.bin .geq (.t 80) (.c (.int .i64 0))) 76 true) 10,dI (iI 82 (.pick (.t 76) (.t 81) (.c (.bool false)))) 11,dI (vI 83 82) 12,dI (uI 84 8 83 true) 13,dI (uI 85 12 83 true) 14,dI (jI 86 (.iaS 1 (.t 84) (.t 85)) 83 true) 15,dI (jI 87 (.load1 (.t 86)) 83 true) 16,dI (jI 88 (.bin .lss (.t 87) (.c (.int .i64 0))) 83 true) 17,dI (uI 89 88 83 true) 18,dI (uI 90 8 89 false) 19,dI (uI 91 13 89 false) 20,dI (jI 92 (.iaS 1 (.t 90) (.t 91)) 89 false) 21,dI (jI 93 (.load1 (.t 92)) 89 false) 22,dI (uI 94 2 89 false) 23,dI (jI 95 (.bin .add (.t 93) (.t 94)) 89 false) 24,dI (uI 96 8 89 false) 25,dI (uI 97 12 89 false) 26,dI (jI 98 (.iaS 1 (.t 96) (.t 97)) 89 false) 27,dI (jI 99 (.load1 (.t 98)) 89 false) 28,dI (jI 100 (.bin .lss (.t 95) (.t 99)) 89 false) 29,dI (jI 101 (.pick (.t 89) (.c (.bool true)) (.t 100)) 83 true) 30,dI (iI 102 (.pick (.t 83) (.t 101) (.c (.bool false)))) 31])
 (.cond (.t 102) (.ops [vI 103 8,vI 104 12,vI 105 8,vI 106 13,iI 107 (.iaS 1 (.t 105) (.t 106)),iI 108 (.load1 (.t 107)),vI 109 2,iI 110 (.bin .add (.t 108) (.t 109)),iI 111 (.iaS 1 (.t 103) (.t 104)),sI (.store 1 (.t 111) (.t 110))]) .skip)))
 (.ops [vI 69 13,iI 70 (.bin .add (.t 69) (.c (.int .i64 1))),vI 13 70])))))))
 (.ops [vI 57 12,iI 58 (.bin .add (.t 57) (.c (.int .i64 1))),vI 12 58])))))))
 (.ops [vI 52 11,iI 53 (.bin .add (.t 52) (.c (.int .i64 1))),vI 11 53]))))))
 (.seq (.ops [vI 112 8,vI 6 112])
 .ret))))))
def r40:List RV:=[.t 6]
theorem fn40:cFn Tryz.prog 40=some (c40,r40,113):=by kernel_rfl
def c41:MC:=
 (.seq (.ops [iI 3 (.box (.t 0)),iI 6 (.mv (.c (.slice none 0 0))),iI 7 (.mv (.c .nilIface))])
 (.seq (.seq (.ops [iI 16 (.loadN 3 (.t 3)),iI 17 (.call 32 [(.t 16)]),iI 18 (.not (.t 17)),vI 19 18,uI 20 2 19 false,jI 21 (.bin .lss (.t 20) (.c (.int .i64 1))) 19 false,iI 22 (.pick (.t 19) (.c (.bool true)) (.t 21)),vI 23 22,uI 24 2 23 false,jI 25 (.bin .gtr (.t 24) (.c (.int .i64 100))) 23 false,iI 26 (.pick (.t 23) (.c (.bool true)) (.t 25)),vI 27 26,uI 28 1 27 false,jI 29 (.len false (.t 28)) 27 false,jI 30 (.bin .gtr (.t 29) (.c (.int .i64 64))) 27 false,iI 31 (.pick (.t 27) (.c (.bool true)) (.t 30))])
 (.cond (.t 31) (.seq (.ops [iI 32 (.mki 78 (.c (.int .i64 1))),iI 33 (.call 33 [(.c (.string ⟨#[102,105,101,108,100]⟩)),(.t 32)]),iI 6 (.mv (.c (.slice none 0 0))),vI 7 33])
 .ret) .skip))
 (.seq (.ops [iI 34 (.bsl 1 1 [(.int .i64 0)] [(0,(.c (.int .i64 (-1))))]),iI 35 (.fadd 2 (.t 3)),iI 36 (.load1 (.t 35)),iI 37 (.len true (.t 36)),iI 38 (.call 61 [(.t 34),(.t 37)]),vI 8 38])
 (.seq (.ops [iI 39 (.call 62 []),vI 9 39])
 (.seq (.seq (.ops [vI 40 1,iI 41 (.len false (.t 40)),iI 42 (.mv (.c (.int .i64 0)))])
 (.block 0 (.loop (.seq (.ops [iI 43 (.bin .lss (.t 42) (.t 41))])
 (.seq (.cond (.t 43) .skip (.exit 0))
 (.seq (.block 1 (.seq (.ops [iI 44 (.iaS 1 (.t 40) (.t 42)),iI 45 (.load1 (.t 44)),vI 11 45])
 (.seq (.ops [iI 46 (.loadN 3 (.t 3)),vI 47 11,iI 48 (.call 42 [(.t 46),(.t 47)])])
 (.cond (.t 48) (.ops [vI 49 9,vI 50 11,iI 51 (.bld [(.int .i64 0),(.int .i64 0)] [(1,1,(.t 50))]),iI 52 (.call 63 [(.t 49),(.t 51)])]) .skip))))
 (.ops [iI 53 (.bin .add (.t 42) (.c (.int .i64 1))),vI 42 53])))))))
 (.seq .skip
 (.seq (.block 2 (.loop (.block 3 (.seq (.ops [vI 55 9,iI 56 (.call 64 [(.t 55)]),vI 54 56,iI 57 (.ext (.t 54) 0),iI 58 (.ext (.t 54) 1),iI 12 (.alloc [(.int .i64 0),(.int .i64 0)]),sI (.store 2 (.t 12) (.t 57)),vI 13 58])
 (.seq (.seq (.ops [vI 59 13,iI 60 (.not (.t 59))])
 (.cond (.t 60) (.exit 2) .skip))
 (.seq (.seq (.ops [vI 61 8,iI 62 (.fadd 1 (.t 12)),iI 63 (.load1 (.t 62)),iI 64 (.iaS 1 (.t 61) (.t 63)),iI 65 (.load1 (.t 64)),iI 66 (.bin .geq (.t 65) (.c (.int .i64 0)))])
 (.cond (.t 66) (.exit 3) .skip))
 (.seq (.ops [vI 67 8,iI 68 (.fadd 1 (.t 12)),iI 69 (.load1 (.t 68)),iI 70 (.fadd 0 (.t 12)),iI 71 (.load1 (.t 70)),iI 72 (.iaS 1 (.t 67) (.t 69)),sI (.store 1 (.t 72) (.t 71))])
 (.seq (.ops [iI 73 (.loadN 3 (.t 3)),iI 74 (.fadd 1 (.t 12)),iI 75 (.load1 (.t 74)),iI 76 (.call 65 [(.t 73),(.t 75)]),iI 77 (.len false (.t 76)),iI 78 (.mv (.c (.int .i64 0)))])
 (.block 4 (.loop (.seq (.ops [iI 79 (.bin .lss (.t 78) (.t 77))])
 (.seq (.cond (.t 79) .skip (.exit 4))
 (.seq (.block 5 (.seq (.ops [iI 80 (.iaS 1 (.t 76) (.t 78)),iI 81 (.load1 (.t 80)),vI 15 81])
 (.ops [vI 82 9,iI 83 (.fadd 0 (.t 12)),iI 84 (.load1 (.t 83)),vI 85 2,iI 86 (.bin .add (.t 84) (.t 85)),vI 87 15,iI 88 (.bld [(.int .i64 0),(.int .i64 0)] [(0,1,(.t 86)),(1,1,(.t 87))]),iI 89 (.call 63 [(.t 82),(.t 88)])])))
 (.ops [iI 90 (.bin .add (.t 78) (.c (.int .i64 1))),vI 78 90]))))))))))))))
 (.seq (.ops [vI 91 8,vI 6 91,iI 7 (.mv (.c .nilIface))])
 .ret))))))))
def r41:List RV:=[.t 6,.t 7]
theorem fn41:cFn Tryz.prog 41=some (c41,r41,92):=by kernel_rfl
def c42:MC:=
 (.seq (.ops [iI 2 (.box (.t 0)),iI 4 (.mv (.c (.bool false)))])
 (.seq (.ops [iI 5 (.loadN 3 (.t 2)),iI 6 (.call 32 [(.t 5)]),vI 7 6,jI 8 (.loadN 3 (.t 2)) 7 true,uI 9 1 7 true,jI 10 (.call 66 [(.t 8),(.t 9)]) 7 true,iI 11 (.pick (.t 7) (.t 10) (.c (.bool false))),vI 4 11])
 .ret))
def r42:List RV:=[.t 4]
theorem fn42:cFn Tryz.prog 42=some (c42,r42,12):=by kernel_rfl
def c43:MC:=
 (.seq (.ops [iI 4 (.mv (.c (.bool false)))])
 (.seq (.ops [vI 5 0,vI 6 1,iI 7 (.call 67 [(.t 5),(.t 6)]),iI 8 (.bin .geq (.t 7) (.c (.int .i64 0))),vI 4 8])
 .ret))
def r43:List RV:=[.t 4]
theorem fn43:cFn Tryz.prog 43=some (c43,r43,9):=by kernel_rfl
def c44:MC:=
 (.seq (.ops [iI 1 (.box (.t 0)),iI 2 (.mv (.c (.bool false)))])
 (.seq (.ops [iI 3 (.mv (.f 68))])
 (.seq (.ops [vI 4 3,iI 5 (.fadd 0 (.t 1)),iI 6 (.load1 (.t 5)),iI 7 (.callv (.t 4) [(.t 6)]),vI 8 7,uI 9 3 8 true,jI 10 (.fadd 1 (.t 1)) 8 true,jI 11 (.load1 (.t 10)) 8 true,jI 12 (.callv (.t 9) [(.t 11)]) 8 true,iI 13 (.pick (.t 8) (.t 12) (.c (.bool false))),vI 14 13,jI 15 (.fadd 2 (.t 1)) 14 true,jI 16 (.load1 (.t 15)) 14 true,jI 17 (.len true (.t 16)) 14 true,jI 18 (.fadd 0 (.t 1)) 14 true,jI 19 (.load1 (.t 18)) 14 true,jI 20 (.fadd 1 (.t 1)) 14 true,jI 21 (.load1 (.t 20)) 14 true,jI 22 (.bin .mul (.t 19) (.t 21)) 14 true,jI 23 (.bin .eql (.t 17) (.t 22)) 14 true,iI 24 (.pick (.t 14) (.t 23) (.c (.bool false))),vI 25 24,jI 26 (.fadd 2 (.t 1)) 25 true,jI 27 (.load1 (.t 26)) 25 true,jI 28 (.call 69 [(.t 27),(.c (.string ⟨#[35,46,67,80]⟩))]) 25 true,jI 29 (.bin .eql (.t 28) (.c (.string ⟨#[]⟩))) 25 true,iI 30 (.pick (.t 25) (.t 29) (.c (.bool false))),vI 31 30,jI 32 (.fadd 2 (.t 1)) 31 true,jI 33 (.load1 (.t 32)) 31 true,jI 34 (.call 70 [(.t 33),(.f 71)]) 31 true,jI 35 (.not (.t 34)) 31 true,iI 36 (.pick (.t 31) (.t 35) (.c (.bool false))),vI 2 36])
 .ret)))
def r44:List RV:=[.t 2]
theorem fn44:cFn Tryz.prog 44=some (c44,r44,37):=by kernel_rfl
def c46:MC:=
 (.seq (.ops [iI 2 (.box (.t 0)),iI 4 (.mv (.c (.int .i64 0)))])
 (.seq (.ops [iI 10 .mkmap,vI 11 1,sI (.mupd .int (.t 10) (.t 11) (.c (.bool true))),vI 12 10,vI 5 12])
 (.seq (.ops [vI 13 1,iI 14 (.bsl 1 1 [(.int .i64 0)] [(0,(.t 13))]),vI 6 14])
 (.seq (.block 0 (.loop (.seq (.seq (.ops [vI 15 6,iI 16 (.len false (.t 15)),iI 17 (.bin .gtr (.t 16) (.c (.int .i64 0)))])
 (.cond (.t 17) .skip (.exit 0)))
 (.block 1 (.seq (.ops [vI 18 6,iI 19 (.iaS 1 (.t 18) (.c (.int .i64 0))),iI 20 (.load1 (.t 19)),vI 7 20])
 (.seq (.ops [vI 21 6,iI 22 (.slc 1 (.t 21) (some (.c (.int .i64 1))) none none),vI 6 22])
 (.seq (.ops [iI 23 (.loadN 3 (.t 2)),vI 24 7,iI 25 (.call 74 [(.t 23),(.t 24)]),iI 26 (.len false (.t 25)),iI 27 (.mv (.c (.int .i64 0)))])
 (.block 2 (.loop (.seq (.ops [iI 28 (.bin .lss (.t 27) (.t 26))])
 (.seq (.cond (.t 28) .skip (.exit 2))
 (.seq (.block 3 (.seq (.ops [iI 29 (.iaS 1 (.t 25) (.t 27)),iI 30 (.load1 (.t 29)),vI 9 30])
 (.seq (.ops [vI 31 5,vI 32 9,iI 33 (.mlook .int false (.bool false) (.t 31) (.t 32)),iI 34 (.not (.t 33))])
 (.cond (.t 34) (.seq (.ops [vI 35 5,vI 36 9,sI (.mupd .int (.t 35) (.t 36) (.c (.bool true)))])
 (.ops [vI 37 6,vI 38 9,iI 39 (.bsl 1 1 [(.int .i64 0)] [(0,(.t 38))]),iI 40 (.app 1 8 (.t 37) (.t 39)),vI 6 40])) .skip))))
 (.ops [iI 41 (.bin .add (.t 27) (.c (.int .i64 1))),vI 27 41])))))))))))))
 (.seq (.ops [vI 42 5,iI 43 (.mlen (.t 42)),vI 4 43])
 .ret)))))
def r46:List RV:=[.t 4]
theorem fn46:cFn Tryz.prog 46=some (c46,r46,44):=by kernel_rfl
def c52:MC:=
 (.seq (.ops [iI 2 (.box (.t 0)),iI 3 (.box (.t 1)),iI 4 (.alloc zl0),iI 5 (.mv (.c .nilIface))])
 (.seq (.block 0 (.seq (.ops [iI 7 (.fadd 1 (.t 3)),iI 8 (.load1 (.t 7)),iI 9 (.bin .lss (.t 8) (.c (.int .i64 0))),vI 10 9,jI 11 (.fadd 1 (.t 3)) 10 false,jI 12 (.load1 (.t 11)) 10 false,jI 13 (.bin .geq (.t 12) (.c (.int .i64 10))) 10 false,iI 14 (.pick (.t 10) (.c (.bool true)) (.t 13)),vI 15 14,jI 16 (.fadd 0 (.t 2)) 15 false,jI 17 (.loadN 3 (.t 16)) 15 false,jI 18 (.fadd 2 (.t 3)) 15 false,jI 19 (.load1 (.t 18)) 15 false,jI 20 (.call 42 [(.t 17),(.t 19)]) 15 false,jI 21 (.not (.t 20)) 15 false,iI 22 (.pick (.t 15) (.c (.bool true)) (.t 21)),vI 23 22,jI 24 (.fadd 3 (.t 3)) 23 false,jI 25 (.load1 (.t 24)) 23 false,jI 26 (.bin .lss (.t 25) (.c (.int .i64 0))) 23 false,iI 27 (.pick (.t 23) (.c (.bool true)) (.t 26)),vI 28 27,jI 29 (.fadd 3 (.t 3)) 28 false,jI 30 (.load1 (.t 29)) 28 false,jI 31 (.bin .gtr (.t 30) (.c (.int .i64 200))) 28 false,iI 32 (.pick (.t 28) (.c (.bool true)) (.t 31)),vI 6 32])
 (.cond (.t 6) (.seq (.ops [iI 33 (.loadN 172 (.t 2)),iI 34 (.mki 78 (.c (.int .i64 1))),sI (.store 172 (.t 4) (.t 33)),vI 5 34])
 .ret) (.seq (.ops [iI 36 (.fadd 1 (.t 3)),iI 37 (.load1 (.t 36)),iI 38 (.fadd 82 (.t 2)),iI 39 (.iaA 10 1 (.t 38) (.t 37)),iI 40 (.load1 (.t 39)),vI 35 40])
 (.cond (.t 35) (.seq (.ops [iI 41 (.loadN 172 (.t 2)),iI 42 (.mki 78 (.c (.int .i64 5))),sI (.store 172 (.t 4) (.t 41)),vI 5 42])
 .ret) (.seq (.dops [dI (iI 44 (.loadN 172 (.t 2))) 0,dI (iI 46 (.fadd 2 (.t 3))) 2,dI (iI 47 (.load1 (.t 46))) 3,qI (iI 45 (.call 22 [(.t 44)])) 1,pI (iI 48 (.call 31 [(.t 45),(.t 47)])) 4,dI (iI 49 (.not (.t 48))) 5,dI (vI 43 49) 6])
 (.cond (.t 43) (.seq (.ops [iI 50 (.loadN 172 (.t 2)),iI 51 (.mki 78 (.c (.int .i64 10))),sI (.store 172 (.t 4) (.t 50)),vI 5 51])
 .ret) .skip)))))))
 (.seq (.dops [dI (iI 52 (.fadd 1 (.t 3))) 0,dI (iI 53 (.load1 (.t 52))) 1,dI (iI 54 (.fadd 1 (.t 3))) 2,dI (iI 55 (.load1 (.t 54))) 3,dI (iI 56 (.fadd 2 (.t 3))) 4,dI (iI 57 (.load1 (.t 56))) 5,dI (iI 58 (.fadd 3 (.t 3))) 6,dI (iI 59 (.load1 (.t 58))) 7,dI (iI 60 (.bld [(.int .i64 0),(.int .i64 0),(.int .i64 0),(.int .i64 0),(.int .i64 0),(.int .i64 0),(.int .i64 0)] [(0,1,(.t 57)),(1,1,(.t 59)),(3,1,(.c (.int .i64 (-1))))])) 8,dI (iI 61 (.fadd 82 (.t 2))) 9,dI (iI 62 (.iaA 10 1 (.t 61) (.t 53))) 10,dI (iI 63 (.fadd 12 (.t 2))) 12,qI (sI (.store 1 (.t 62) (.c (.bool true)))) 11,dI (iI 64 (.iaA 10 7 (.t 63) (.t 55))) 13,pI (sI (.store 7 (.t 64) (.t 60))) 14])
 (.seq (.ops [iI 65 (.loadN 172 (.t 2)),sI (.store 172 (.t 4) (.t 65)),iI 5 (.mv (.c .nilIface))])
 .ret))))
def r52:List RV:=[.cell 4 172 true,.t 5]
theorem fn52:cFn Tryz.prog 52=some (c52,r52,66):=by kernel_rfl
def c53:MC:=
 (.seq (.ops [iI 2 (.box (.t 0)),iI 3 (.box (.t 1)),iI 4 (.alloc zl0),iI 5 (.mv (.c .nilIface))])
 (.seq (.block 0 (.seq (.ops [iI 7 (.fadd 1 (.t 3)),iI 8 (.load1 (.t 7)),iI 9 (.bin .lss (.t 8) (.c (.int .i64 0))),vI 10 9,jI 11 (.fadd 1 (.t 3)) 10 false,jI 12 (.load1 (.t 11)) 10 false,jI 13 (.bin .geq (.t 12) (.c (.int .i64 20))) 10 false,iI 14 (.pick (.t 10) (.c (.bool true)) (.t 13)),vI 15 14,jI 16 (.fadd 0 (.t 2)) 15 false,jI 17 (.loadN 3 (.t 16)) 15 false,jI 18 (.fadd 2 (.t 3)) 15 false,jI 19 (.load1 (.t 18)) 15 false,jI 20 (.call 42 [(.t 17),(.t 19)]) 15 false,jI 21 (.not (.t 20)) 15 false,iI 22 (.pick (.t 15) (.c (.bool true)) (.t 21)),vI 23 22,jI 24 (.fadd 0 (.t 2)) 23 false,jI 25 (.loadN 3 (.t 24)) 23 false,jI 26 (.fadd 3 (.t 3)) 23 false,jI 27 (.load1 (.t 26)) 23 false,jI 28 (.call 42 [(.t 25),(.t 27)]) 23 false,jI 29 (.not (.t 28)) 23 false,iI 30 (.pick (.t 23) (.c (.bool true)) (.t 29)),vI 6 30])
 (.cond (.t 6) (.seq (.ops [iI 31 (.loadN 172 (.t 2)),iI 32 (.mki 78 (.c (.int .i64 1))),sI (.store 172 (.t 4) (.t 31)),vI 5 32])
 .ret) (.seq (.ops [iI 34 (.fadd 1 (.t 3)),iI 35 (.load1 (.t 34)),iI 36 (.fadd 152 (.t 2)),iI 37 (.iaA 20 1 (.t 36) (.t 35)),iI 38 (.load1 (.t 37)),vI 33 38])
 (.cond (.t 33) (.seq (.ops [iI 39 (.loadN 172 (.t 2)),iI 40 (.mki 78 (.c (.int .i64 5))),sI (.store 172 (.t 4) (.t 39)),vI 5 40])
 .ret) .skip)))))
 (.seq (.dops [dI (iI 41 (.fadd 1 (.t 3))) 0,dI (iI 42 (.load1 (.t 41))) 1,dI (iI 43 (.fadd 1 (.t 3))) 2,dI (iI 44 (.load1 (.t 43))) 3,dI (iI 45 (.fadd 2 (.t 3))) 4,dI (iI 46 (.load1 (.t 45))) 5,dI (iI 47 (.fadd 3 (.t 3))) 6,dI (iI 48 (.load1 (.t 47))) 7,dI (iI 49 (.bld [(.int .i64 0),(.int .i64 0),(.int .i64 0)] [(0,1,(.t 46)),(1,1,(.t 48))])) 8,dI (iI 50 (.fadd 152 (.t 2))) 9,dI (iI 51 (.iaA 20 1 (.t 50) (.t 42))) 10,dI (iI 52 (.fadd 92 (.t 2))) 12,qI (sI (.store 1 (.t 51) (.c (.bool true)))) 11,dI (iI 53 (.iaA 20 3 (.t 52) (.t 44))) 13,pI (sI (.store 3 (.t 53) (.t 49))) 14])
 (.seq (.ops [iI 54 (.loadN 172 (.t 2)),sI (.store 172 (.t 4) (.t 54)),iI 5 (.mv (.c .nilIface))])
 .ret))))
def r53:List RV:=[.cell 4 172 true,.t 5]
theorem fn53:cFn Tryz.prog 53=some (c53,r53,55):=by kernel_rfl
def c54:MC:=
 (.seq (.ops [iI 2 (.box (.t 0)),iI 3 (.box (.t 1)),iI 4 (.alloc zl0),iI 5 (.mv (.c .nilIface))])
 (.seq (.block 0 (.seq (.ops [iI 9 (.fadd 1 (.t 3)),iI 10 (.load1 (.t 9)),iI 11 (.bin .lss (.t 10) (.c (.int .i64 0))),vI 12 11,jI 13 (.fadd 1 (.t 3)) 12 false,jI 14 (.load1 (.t 13)) 12 false,jI 15 (.bin .geq (.t 14) (.c (.int .i64 10))) 12 false,iI 16 (.pick (.t 12) (.c (.bool true)) (.t 15)),vI 17 16,jI 18 (.fadd 2 (.t 3)) 17 false,jI 19 (.load1 (.t 18)) 17 false,jI 20 (.bin .lss (.t 19) (.c (.int .i64 0))) 17 false,iI 21 (.pick (.t 17) (.c (.bool true)) (.t 20)),vI 22 21,jI 23 (.fadd 2 (.t 3)) 22 false,jI 24 (.load1 (.t 23)) 22 false,jI 25 (.bin .gtr (.t 24) (.c (.int .i64 200))) 22 false,iI 26 (.pick (.t 22) (.c (.bool true)) (.t 25)),vI 8 26])
 (.cond (.t 8) (.seq (.ops [iI 27 (.loadN 172 (.t 2)),iI 28 (.mki 78 (.c (.int .i64 1))),sI (.store 172 (.t 4) (.t 27)),vI 5 28])
 .ret) (.seq (.ops [iI 30 (.fadd 1 (.t 3)),iI 31 (.load1 (.t 30)),iI 32 (.fadd 82 (.t 2)),iI 33 (.iaA 10 1 (.t 32) (.t 31)),iI 34 (.load1 (.t 33)),iI 35 (.not (.t 34)),vI 29 35])
 (.cond (.t 29) (.seq (.ops [iI 36 (.loadN 172 (.t 2)),iI 37 (.mki 78 (.c (.int .i64 4))),sI (.store 172 (.t 4) (.t 36)),vI 5 37])
 .ret) .skip)))))
 (.seq (.dops [dI (iI 39 (.fadd 1 (.t 3))) 0,dI (iI 40 (.load1 (.t 39))) 1,dI (iI 41 (.fadd 12 (.t 2))) 2,dI (iI 42 (.iaA 10 7 (.t 41) (.t 40))) 3,dI (iI 43 (.loadN 7 (.t 42))) 4,dI (iI 45 (.fadd 2 (.t 3))) 6,dI (iI 46 (.load1 (.t 45))) 7,qI (iI 44 (.call 81 [(.t 43)])) 5,pI (iI 47 (.call 80 [(.t 44),(.t 46)])) 8,dI (vI 38 47) 9,dI (iI 48 (.ext (.t 38) 0)) 10,dI (iI 49 (.ext (.t 38) 1)) 11,qI (iI 6 (.alloc [(.int .i64 0),(.int .i64 0),(.int .i64 0),(.int .i64 0)])) 12,pI (sI (.store 4 (.t 6) (.t 48))) 13,dI (vI 7 49) 14])
 (.seq (.dops [dI (iI 50 (.fadd 1 (.t 3))) 0,dI (iI 51 (.load1 (.t 50))) 1,dI (iI 52 (.fadd 1 (.t 3))) 2,dI (iI 53 (.load1 (.t 52))) 3,dI (iI 54 (.fadd 12 (.t 2))) 4,dI (iI 55 (.iaA 10 7 (.t 54) (.t 53))) 5,dI (iI 56 (.loadN 7 (.t 55))) 6,dI (iI 57 (.loadN 4 (.t 6))) 7,dI (iI 59 (.fadd 12 (.t 2))) 9,qI (iI 58 (.call 82 [(.t 56),(.t 57)])) 8,dI (iI 60 (.iaA 10 7 (.t 59) (.t 51))) 10,pI (sI (.store 7 (.t 60) (.t 58))) 11])
 (.seq (.ops [iI 61 (.loadN 172 (.t 2)),vI 62 7,sI (.store 172 (.t 4) (.t 61)),vI 5 62])
 .ret)))))
def r54:List RV:=[.cell 4 172 true,.t 5]
theorem fn54:cFn Tryz.prog 54=some (c54,r54,63):=by kernel_rfl
def c55:MC:=
 (.seq (.ops [iI 3 (.box (.t 0)),iI 6 (.alloc [(.int .u8 0),(.int .u8 0),(.int .u8 0),(.int .u8 0),(.int .u8 0),(.int .u8 0),(.int .u8 0),(.int .u8 0)])])
 (.seq (.block 0 (.seq (.ops [vI 16 1,iI 17 (.bin .lss (.t 16) (.c (.int .i64 0))),vI 18 17,uI 19 1 18 false,jI 20 (.bin .geq (.t 19) (.c (.int .i64 64))) 18 false,iI 21 (.pick (.t 18) (.c (.bool true)) (.t 20)),vI 15 21])
 (.cond (.t 15) (.seq (.ops [iI 22 (.loadN 8 (.t 3)),sI (.store 8 (.t 6) (.t 22))])
 .ret) (.seq (.ops [vI 24 2,vI 23 24])
 (.cond (.t 23) (.dops [dI (vI 25 1) 0,dI (iI 26 (.bin .quo (.t 25) (.c (.int .i64 8)))) 1,dI (iI 27 (.iaA 8 1 (.t 3) (.t 26))) 2,dI (iI 28 (.load1 (.t 27))) 3,dI (vI 29 1) 4,qI (iI 30 (.call 83 [(.t 29)])) 5,dI (iI 31 (.bin .or (.t 28) (.t 30))) 6,dI (iI 32 (.iaA 8 1 (.t 3) (.t 26))) 7,pI (sI (.store 1 (.t 32) (.t 31))) 8]) (.dops [dI (vI 7 1) 0,dI (iI 8 (.bin .quo (.t 7) (.c (.int .i64 8)))) 1,dI (iI 9 (.iaA 8 1 (.t 3) (.t 8))) 2,dI (iI 10 (.load1 (.t 9))) 3,dI (vI 11 1) 4,qI (iI 12 (.call 83 [(.t 11)])) 5,dI (iI 13 (.bin .andNot (.t 10) (.t 12))) 6,dI (iI 14 (.iaA 8 1 (.t 3) (.t 8))) 7,pI (sI (.store 1 (.t 14) (.t 13))) 8]))))))
 (.seq (.ops [iI 33 (.loadN 8 (.t 3)),sI (.store 8 (.t 6) (.t 33))])
 .ret)))
def r55:List RV:=[.cell 6 8 true]
theorem fn55:cFn Tryz.prog 55=some (c55,r55,34):=by kernel_rfl
def c56:MC:=
 (.seq (.ops [iI 1 (.box (.t 0)),iI 2 (.alloc zl0),iI 3 (.mv (.c (.slice none 0 0)))])
 (.seq (.ops [iI 10 (.fadd 3 (.t 1)),iI 11 (.fadd 0 (.t 10)),iI 12 (.load1 (.t 11)),iI 13 (.bin .add (.t 12) (.c (.int .i64 1))),iI 14 (.fadd 3 (.t 1)),iI 15 (.fadd 0 (.t 14)),sI (.store 1 (.t 15) (.t 13))])
 (.seq (.ops [iI 16 (.fadd 0 (.t 1)),iI 17 (.loadN 3 (.t 16)),iI 18 (.fadd 3 (.t 1)),iI 19 (.fadd 1 (.t 18)),iI 20 (.loadN 8 (.t 19)),iI 21 (.call 84 [(.t 17),(.t 20)]),vI 4 21])
 (.seq (.ops [vI 22 4,iI 23 (.call 85 [(.t 1),(.t 22)])])
 (.seq (.ops [vI 24 4,iI 25 (.call 86 [(.t 1),(.t 24)])])
 (.seq (.ops [iI 26 (.loadN 172 (.t 1)),iI 27 (.call 22 [(.t 26)]),vI 5 27])
 (.seq (.seq (.ops [iI 28 (.mv (.c (.int .i64 0)))])
 (.block 0 (.loop (.seq (.ops [iI 29 (.bin .lss (.t 28) (.c (.int .i64 10)))])
 (.seq (.cond (.t 29) .skip (.exit 0))
 (.seq (.block 1 (.seq (.ops [vI 30 28,vI 6 30])
 (.ops [vI 31 6,vI 32 4,vI 33 5,iI 34 (.call 87 [(.t 1),(.t 31),(.t 32),(.t 33)])])))
 (.ops [iI 35 (.bin .add (.t 28) (.c (.int .i64 1))),vI 28 35])))))))
 (.seq (.ops [iI 7 (.mv (.c (.slice none 0 0)))])
 (.seq (.seq (.ops [iI 36 (.fadd 12 (.t 1)),iI 37 (.loadN 70 (.t 36)),iI 38 (.mv (.c (.int .i64 0)))])
 (.block 2 (.loop (.seq (.ops [iI 39 (.bin .lss (.t 38) (.c (.int .i64 10)))])
 (.seq (.cond (.t 39) .skip (.exit 2))
 (.seq (.block 3 (.seq (.ops [vI 40 38,iI 41 (.idxA 10 7 true (.t 37) (.t 38)),iI 9 (.alloc [(.int .i64 0),(.int .i64 0),(.int .i64 0),(.int .i64 0),(.int .i64 0),(.int .i64 0),(.int .i64 0)]),vI 8 40,sI (.store 7 (.t 9) (.t 41))])
 (.seq (.ops [vI 42 8,iI 43 (.fadd 82 (.t 1)),iI 44 (.iaA 10 1 (.t 43) (.t 42)),iI 45 (.load1 (.t 44))])
 (.cond (.t 45) (.ops [vI 46 7,vI 47 8,iI 48 (.fadd 0 (.t 9)),iI 49 (.load1 (.t 48)),iI 50 (.bld [(.int .i64 0),(.int .i64 0)] [(0,1,(.t 47)),(1,1,(.t 49))]),iI 51 (.bsl 2 1 [(.int .i64 0),(.int .i64 0)] [(0,(.t 50))]),iI 52 (.app 2 16 (.t 46) (.t 51)),vI 7 52]) .skip))))
 (.ops [iI 53 (.bin .add (.t 38) (.c (.int .i64 1))),vI 38 53])))))))
 (.seq (.ops [iI 54 (.loadN 172 (.t 1)),vI 55 7,sI (.store 172 (.t 2) (.t 54)),vI 3 55])
 .ret))))))))))
def r56:List RV:=[.cell 2 172 true,.t 3]
theorem fn56:cFn Tryz.prog 56=some (c56,r56,56):=by kernel_rfl
def c57:MC:=
 (.seq (.ops [iI 1 (.box (.t 0)),iI 2 (.mv (.c (.string ⟨#[]⟩))),iI 3 (.mv (.c .nilIface))])
 (.seq (.seq (.ops [iI 4 (.fadd 0 (.t 1)),iI 5 (.load1 (.t 4)),iI 6 (.call 88 [(.t 5),(.c (.int .i64 0)),(.c (.int .i64 2147483647))]),iI 7 (.not (.t 6))])
 (.cond (.t 7) (.seq (.ops [iI 8 (.call 89 []),iI 2 (.mv (.c (.string ⟨#[]⟩))),vI 3 8])
 .ret) .skip))
 (.seq (.dops [dI (iI 9 (.fadd 0 (.t 1))) 0,dI (iI 10 (.load1 (.t 9))) 1,dI (iI 12 (.fadd 1 (.t 1))) 3,dI (iI 13 (.slcA 8 1 (.t 12) none none)) 4,dI (iI 14 (.b2s (.t 13))) 5,qI (iI 11 (.call 90 [(.c (.int .i64 4)),(.t 10)])) 2,dI (iI 15 (.bin .add (.t 11) (.t 14))) 6,dI (vI 2 15) 7,dI (iI 3 (.mv (.c .nilIface))) 8])
 .ret)))
def r57:List RV:=[.t 2,.t 3]
theorem fn57:cFn Tryz.prog 57=some (c57,r57,16):=by kernel_rfl
def c58:MC:=
 (.seq (.ops [iI 1 (.box (.t 0)),iI 2 (.mv (.c (.string ⟨#[]⟩))),iI 3 (.mv (.c .nilIface))])
 (.seq (.seq (.dops [dI (iI 6 (.fadd 0 (.t 1))) 0,dI (iI 7 (.load1 (.t 6))) 1,dI (iI 9 (.fadd 1 (.t 1))) 3,dI (iI 10 (.load1 (.t 9))) 4,dI (iI 12 (.fadd 2 (.t 1))) 6,dI (iI 13 (.load1 (.t 12))) 7,dI (iI 15 (.fadd 3 (.t 1))) 9,dI (iI 16 (.load1 (.t 15))) 10,dI (iI 18 (.fadd 6 (.t 1))) 12,dI (iI 19 (.load1 (.t 18))) 13,qI (iI 8 (.call 88 [(.t 7),(.c (.int .i64 0)),(.c (.int .i64 63))])) 2,qI (iI 11 (.call 88 [(.t 10),(.c (.int .i64 0)),(.c (.int .i64 200))])) 5,qI (iI 14 (.call 88 [(.t 13),(.c (.int .i64 0)),(.c (.int .i64 4))])) 8,qI (iI 17 (.call 88 [(.t 16),(.c (.int .i64 (-1))),(.c (.int .i64 19))])) 11,pI (iI 20 (.call 88 [(.t 19),(.c (.int .i64 (-32768))),(.c (.int .i64 32767))])) 14,pI (iI 21 (.bsl 1 5 [(.bool false)] [(0,(.t 8)),(1,(.t 11)),(2,(.t 14)),(3,(.t 17)),(4,(.t 20))])) 15,pI (iI 22 (.call 91 [(.t 21)])) 16,dI (iI 23 (.not (.t 22))) 17])
 (.cond (.t 23) (.seq (.ops [iI 24 (.call 89 []),iI 2 (.mv (.c (.string ⟨#[]⟩))),vI 3 24])
 .ret) .skip))
 (.seq (.dops [dI (iI 27 (.fadd 0 (.t 1))) 1,⟨⟨(some 28),.load1 (.t 27),none⟩,2,false,true⟩,dI (iI 29 (.fadd 1 (.t 1))) 3,⟨⟨(some 30),.load1 (.t 29),none⟩,4,false,true⟩,dI (iI 31 (.fadd 2 (.t 1))) 5,⟨⟨(some 32),.load1 (.t 31),none⟩,6,false,true⟩,dI (iI 33 (.fadd 3 (.t 1))) 7,dI (iI 34 (.load1 (.t 33))) 8,dI (iI 35 (.bin .add (.t 34) (.c (.int .i64 1)))) 9,dI (iI 36 (.fadd 4 (.t 1))) 10,⟨⟨(some 37),.load1 (.t 36),none⟩,11,false,true⟩,dI (iI 38 (.fadd 5 (.t 1))) 12,⟨⟨(some 39),.load1 (.t 38),none⟩,13,false,true⟩,dI (iI 40 (.fadd 6 (.t 1))) 14,dI (iI 41 (.load1 (.t 40))) 15,dI (iI 42 (.bin .add (.t 41) (.c (.int .i64 32768)))) 16,qI (iI 26 (.call 93 [])) 0,qI (iI 43 (.bsl 1 7 [(.int .i64 0)] [(0,(.t 28)),(1,(.t 30)),(2,(.t 32)),(3,(.t 35)),(4,(.t 37)),(5,(.t 39)),(6,(.t 42))])) 17,pI (iI 44 (.call 92 [(.t 26),(.t 43)])) 18,dI (vI 25 44) 19,dI (iI 45 (.ext (.t 25) 0)) 20,dI (iI 46 (.ext (.t 25) 1)) 21,dI (vI 4 45) 22,dI (vI 5 46) 23])
 (.seq (.seq (.ops [vI 47 5,iI 48 (.eqN .iface true (.t 47) (.c .nilIface))])
 (.cond (.t 48) (.seq (.ops [iI 49 (.call 89 []),iI 2 (.mv (.c (.string ⟨#[]⟩))),vI 3 49])
 .ret) .skip))
 (.seq (.ops [vI 50 4,vI 2 50,iI 3 (.mv (.c .nilIface))])
 .ret)))))
def r58:List RV:=[.t 2,.t 3]
theorem fn58:cFn Tryz.prog 58=some (c58,r58,51):=by kernel_rfl
def c59:MC:=
 (.seq (.ops [iI 1 (.box (.t 0)),iI 2 (.mv (.c (.string ⟨#[]⟩))),iI 3 (.mv (.c .nilIface))])
 (.seq (.seq (.dops [dI (iI 4 (.fadd 0 (.t 1))) 0,dI (iI 5 (.load1 (.t 4))) 1,dI (iI 7 (.fadd 1 (.t 1))) 3,dI (iI 8 (.load1 (.t 7))) 4,dI (iI 10 (.fadd 2 (.t 1))) 6,dI (iI 11 (.load1 (.t 10))) 7,qI (iI 6 (.call 88 [(.t 5),(.c (.int .i64 0)),(.c (.int .i64 63))])) 2,qI (iI 9 (.call 88 [(.t 8),(.c (.int .i64 0)),(.c (.int .i64 63))])) 5,pI (iI 12 (.call 88 [(.t 11),(.c (.int .i64 0)),(.c (.int .i64 3))])) 8,pI (iI 13 (.bsl 1 3 [(.bool false)] [(0,(.t 6)),(1,(.t 9)),(2,(.t 12))])) 9,pI (iI 14 (.call 91 [(.t 13)])) 10,dI (iI 15 (.not (.t 14))) 11])
 (.cond (.t 15) (.seq (.ops [iI 16 (.call 89 []),iI 2 (.mv (.c (.string ⟨#[]⟩))),vI 3 16])
 .ret) .skip))
 (.seq (.dops [dI (iI 18 (.fadd 0 (.t 1))) 1,⟨⟨(some 19),.load1 (.t 18),none⟩,2,false,true⟩,dI (iI 20 (.fadd 1 (.t 1))) 3,⟨⟨(some 21),.load1 (.t 20),none⟩,4,false,true⟩,dI (iI 22 (.fadd 2 (.t 1))) 5,⟨⟨(some 23),.load1 (.t 22),none⟩,6,false,true⟩,qI (iI 17 (.call 94 [])) 0,qI (iI 24 (.bsl 1 6 [(.int .i64 0)] [(0,(.t 19)),(1,(.t 21)),(2,(.t 23)),(3,(.c (.int .i64 0))),(4,(.c (.int .i64 0))),(5,(.c (.int .i64 0)))])) 7,pI (iI 25 (.call 92 [(.t 17),(.t 24)])) 8,dI (iI 26 (.ext (.t 25) 0)) 9,dI (iI 27 (.ext (.t 25) 1)) 10,dI (vI 2 26) 11,dI (vI 3 27) 12])
 .ret)))
def r59:List RV:=[.t 2,.t 3]
theorem fn59:cFn Tryz.prog 59=some (c59,r59,28):=by kernel_rfl
def c60:MC:=
 (.seq (.ops [iI 2 (.box (.t 0)),iI 3 (.box (.t 1)),iI 4 (.mv (.c (.bool false)))])
 (.seq (.seq (.ops [iI 6 (.fadd 3 (.t 3)),iI 7 (.load1 (.t 6)),iI 8 (.bin .eql (.t 7) (.c (.int .i64 (-1))))])
 (.cond (.t 8) (.seq (.ops [iI 9 (.fadd 2 (.t 3)),iI 10 (.load1 (.t 9)),iI 11 (.bin .neq (.t 10) (.c (.int .i64 1))),vI 12 11,jI 13 (.fadd 2 (.t 3)) 12 true,jI 14 (.load1 (.t 13)) 12 true,jI 15 (.bin .neq (.t 14) (.c (.int .i64 2))) 12 true,iI 16 (.pick (.t 12) (.t 15) (.c (.bool false))),vI 4 16])
 .ret) .skip))
 (.seq (.ops [iI 17 (.fadd 3 (.t 3)),iI 18 (.load1 (.t 17)),iI 19 (.fadd 92 (.t 2)),iI 20 (.iaA 20 3 (.t 19) (.t 18)),iI 21 (.fadd 2 (.t 20)),iI 22 (.load1 (.t 21)),vI 5 22])
 (.seq (.seq (.ops [iI 23 (.fadd 2 (.t 3)),iI 24 (.load1 (.t 23))])
 (.block 0 (.seq (.ops [iI 26 (.bin .eql (.t 24) (.c (.int .i64 1))),vI 25 26])
 (.cond (.t 25) (.seq (.ops [iI 27 (.fadd 3 (.t 3)),iI 28 (.load1 (.t 27)),iI 29 (.fadd 152 (.t 2)),iI 30 (.iaA 20 1 (.t 29) (.t 28)),iI 31 (.load1 (.t 30)),vI 32 31,uI 33 5 32 true,jI 34 (.bin .eql (.t 33) (.c (.int .i64 1))) 32 true,iI 35 (.pick (.t 32) (.t 34) (.c (.bool false))),vI 4 35])
 .ret) (.seq (.ops [iI 37 (.bin .eql (.t 24) (.c (.int .i64 2))),vI 36 37])
 (.cond (.t 36) (.seq (.ops [iI 38 (.fadd 3 (.t 3)),iI 39 (.load1 (.t 38)),iI 40 (.fadd 152 (.t 2)),iI 41 (.iaA 20 1 (.t 40) (.t 39)),iI 42 (.load1 (.t 41)),vI 43 42,uI 44 5 43 true,jI 45 (.bin .eql (.t 44) (.c (.int .i64 2))) 43 true,iI 46 (.pick (.t 43) (.t 45) (.c (.bool false))),vI 4 46])
 .ret) (.seq (.ops [iI 48 (.bin .eql (.t 24) (.c (.int .i64 4))),vI 47 48])
 (.cond (.t 47) (.seq (.ops [iI 49 (.fadd 3 (.t 3)),iI 50 (.load1 (.t 49)),iI 51 (.fadd 152 (.t 2)),iI 52 (.iaA 20 1 (.t 51) (.t 50)),iI 53 (.load1 (.t 52)),vI 54 53,uI 55 5 54 true,jI 56 (.bin .eql (.t 55) (.c (.int .i64 1))) 54 true,uI 57 56 54 true,uI 58 5 57 false,jI 59 (.bin .eql (.t 58) (.c (.int .i64 2))) 57 false,jI 60 (.pick (.t 57) (.c (.bool true)) (.t 59)) 54 true,iI 61 (.pick (.t 54) (.t 60) (.c (.bool false))),vI 4 61])
 .ret) .skip))))))))
 (.seq (.ops [iI 4 (.mv (.c (.bool false)))])
 .ret)))))
def r60:List RV:=[.t 4]
theorem fn60:cFn Tryz.prog 60=some (c60,r60,62):=by kernel_rfl
def c61:MC:=
 (.seq (.ops [iI 4 (.mv (.c (.slice none 0 0)))])
 (.seq (.seq (.ops [vI 9 1,iI 10 (.bin .lss (.t 9) (.c (.int .i64 0)))])
 (.cond (.t 10) (.ops [iI 11 (.mki 9 (.c (.string ⟨#[99,97,110,110,111,116,32,98,101,32,110,101,103,97,116,105,118,101]⟩))),sI .bad]) .skip))
 (.seq (.ops [vI 13 0,iI 14 (.len false (.t 13)),iI 15 (.conv .u64 (.t 14)),vI 16 1,iI 17 (.conv .u64 (.t 16)),iI 18 (.call 95 [(.t 15),(.t 17)]),vI 12 18,iI 19 (.ext (.t 12) 0),iI 20 (.ext (.t 12) 1),vI 5 19,vI 6 20])
 (.seq (.seq (.ops [vI 21 5,iI 22 (.bin .gtr (.t 21) (.c (.int .u64 0))),vI 23 22,uI 24 6 23 false,jI 25 (.bin .gtr (.t 24) (.c (.int .u64 9223372036854775807))) 23 false,iI 26 (.pick (.t 23) (.c (.bool true)) (.t 25))])
 (.cond (.t 26) (.ops [iI 27 (.mki 9 (.c (.string ⟨#[116,104,101,32,114,101,115,117,108,116,32,111,102,32,40,108,101,110,40,120,41,32,42,32,99,111,117,110,116,41,32,111,118,101,114,102,108,111,119,115]⟩))),sI .bad]) .skip))
 (.seq (.ops [vI 28 6,iI 29 (.conv .i64 (.t 28)),iI 30 (.mks 1 8 [(.int .i64 0)] (.t 29) (.t 29)),vI 7 30])
 (.seq (.ops [vI 31 7,vI 32 0,iI 33 (.cpy 1 (.t 31) (.t 32)),vI 8 33])
 (.seq (.block 0 (.loop (.seq (.seq (.ops [vI 34 8,vI 35 7,iI 36 (.len false (.t 35)),iI 37 (.bin .lss (.t 34) (.t 36))])
 (.cond (.t 37) .skip (.exit 0)))
 (.block 1 (.dops [dI (vI 38 8) 0,dI (vI 39 7) 1,dI (vI 40 8) 2,dI (iI 41 (.slc 1 (.t 39) (some (.t 40)) none none)) 3,dI (vI 42 7) 4,dI (vI 43 8) 5,dI (iI 44 (.slc 1 (.t 42) none (some (.t 43)) none)) 6,pI (iI 45 (.cpy 1 (.t 41) (.t 44))) 7,dI (iI 46 (.bin .add (.t 38) (.t 45))) 8,pI (vI 8 46) 9])))))
 (.seq (.ops [vI 47 7,vI 4 47])
 .ret))))))))
def r61:List RV:=[.t 4]
theorem fn61:cFn Tryz.prog 61=some (c61,r61,48):=by kernel_rfl
def c62:MC:=
 (.seq (.ops [iI 0 (.mv (.c (.pointer none)))])
 (.seq (.ops [iI 1 (.bld [(.slice none 0 0)] []),iI 2 (.box (.t 1)),vI 0 2])
 .ret))
def r62:List RV:=[.t 0]
theorem fn62:cFn Tryz.prog 62=some (c62,r62,3):=by kernel_rfl
def c63:MC:=
 (.seq (.ops [iI 3 (.box (.t 1))])
 (.seq (.seq (.ops [vI 5 0,iI 6 (.eqN .ptr false (.t 5) (.c (.pointer none)))])
 (.cond (.t 6) .ret .skip))
 (.seq (.dops [dI (vI 7 0) 0,dI (vI 8 0) 1,dI (iI 9 (.nilck (.t 8))) 2,dI (iI 10 (.fadd 0 (.t 9))) 3,dI (iI 11 (.load1 (.t 10))) 4,dI (iI 12 (.loadN 2 (.t 3))) 5,qI (iI 13 (.bsl 2 1 [(.int .i64 0),(.int .i64 0)] [(0,(.t 12))])) 6,pI (iI 14 (.app 2 16 (.t 11) (.t 13))) 7,dI (iI 15 (.nilck (.t 7))) 8,dI (iI 16 (.fadd 0 (.t 15))) 9,pI (sI (.store 1 (.t 16) (.t 14))) 10])
 (.seq (.ops [vI 17 0,iI 18 (.nilck (.t 17)),iI 19 (.fadd 0 (.t 18)),iI 20 (.load1 (.t 19)),iI 21 (.len false (.t 20)),iI 22 (.bin .sub (.t 21) (.c (.int .i64 1))),vI 4 22])
 (.block 0 (.loop (.seq (.seq (.ops [vI 23 4,iI 24 (.bin .gtr (.t 23) (.c (.int .i64 0))),vI 25 24,uI 26 0 25 true,uI 27 4 25 true,uI 28 4 25 true,jI 29 (.bin .sub (.t 28) (.c (.int .i64 1))) 25 true,jI 30 (.bin .quo (.t 29) (.c (.int .i64 2))) 25 true,jI 31 (.call 96 [(.t 26),(.t 27),(.t 30)]) 25 true,iI 32 (.pick (.t 25) (.t 31) (.c (.bool false)))])
 (.cond (.t 32) .skip (.exit 0)))
 (.seq (.block 1 (.ops [vI 36 0,vI 37 4,vI 38 4,iI 39 (.bin .sub (.t 38) (.c (.int .i64 1))),iI 40 (.bin .quo (.t 39) (.c (.int .i64 2))),iI 41 (.call 97 [(.t 36),(.t 37),(.t 40)])]))
 (.ops [vI 33 4,iI 34 (.bin .sub (.t 33) (.c (.int .i64 1))),iI 35 (.bin .quo (.t 34) (.c (.int .i64 2))),vI 4 35])))))))))
def r63:List RV:=[]
theorem fn63:cFn Tryz.prog 63=some (c63,r63,42):=by kernel_rfl
def c64:MC:=
 (.seq (.ops [iI 2 (.alloc [(.int .i64 0),(.int .i64 0)]),iI 3 (.mv (.c (.bool false)))])
 (.seq (.seq (.ops [vI 6 0,iI 7 (.call 98 [(.t 6)]),iI 8 (.bin .eql (.t 7) (.c (.int .i64 0)))])
 (.cond (.t 8) (.seq (.ops [iI 9 (.bld [(.int .i64 0),(.int .i64 0)] []),sI (.store 2 (.t 2) (.t 9)),iI 3 (.mv (.c (.bool false)))])
 .ret) .skip))
 (.seq (.ops [vI 10 0,iI 11 (.nilck (.t 10)),iI 12 (.fadd 0 (.t 11)),iI 13 (.load1 (.t 12)),iI 14 (.iaS 2 (.t 13) (.c (.int .i64 0))),iI 15 (.loadN 2 (.t 14)),iI 4 (.alloc [(.int .i64 0),(.int .i64 0)]),sI (.store 2 (.t 4) (.t 15))])
 (.seq (.ops [vI 16 0,iI 17 (.nilck (.t 16)),iI 18 (.fadd 0 (.t 17)),iI 19 (.load1 (.t 18)),iI 20 (.len false (.t 19)),iI 21 (.bin .sub (.t 20) (.c (.int .i64 1))),vI 5 21])
 (.seq (.dops [dI (vI 22 0) 0,dI (iI 23 (.nilck (.t 22))) 1,dI (iI 24 (.fadd 0 (.t 23))) 2,dI (iI 25 (.load1 (.t 24))) 3,dI (vI 26 0) 4,dI (iI 27 (.nilck (.t 26))) 5,dI (iI 28 (.fadd 0 (.t 27))) 6,dI (iI 29 (.load1 (.t 28))) 7,dI (vI 30 5) 8,dI (iI 31 (.iaS 2 (.t 29) (.t 30))) 9,dI (iI 32 (.loadN 2 (.t 31))) 10,dI (iI 33 (.iaS 2 (.t 25) (.c (.int .i64 0)))) 11,pI (sI (.store 2 (.t 33) (.t 32))) 12])
 (.seq (.ops [vI 34 0,vI 35 0,iI 36 (.nilck (.t 35)),iI 37 (.fadd 0 (.t 36)),iI 38 (.load1 (.t 37)),vI 39 5,iI 40 (.slc 2 (.t 38) none (some (.t 39)) none),iI 41 (.nilck (.t 34)),iI 42 (.fadd 0 (.t 41)),sI (.store 1 (.t 42) (.t 40))])
 (.seq (.ops [vI 43 0,iI 44 (.call 99 [(.t 43)])])
 (.seq (.ops [iI 45 (.loadN 2 (.t 4)),sI (.store 2 (.t 2) (.t 45)),iI 3 (.mv (.c (.bool true)))])
 .ret))))))))
def r64:List RV:=[.cell 2 2 true,.t 3]
theorem fn64:cFn Tryz.prog 64=some (c64,r64,46):=by kernel_rfl
def c65:MC:=
 (.seq (.ops [iI 2 (.box (.t 0)),iI 4 (.mv (.c (.slice none 0 0)))])
 (.seq (.seq (.ops [iI 5 (.loadN 3 (.t 2)),vI 6 1,iI 7 (.call 42 [(.t 5),(.t 6)]),iI 8 (.not (.t 7))])
 (.cond (.t 8) (.seq (.ops [iI 4 (.mv (.c (.slice none 0 0)))])
 .ret) .skip))
 (.seq (.ops [iI 9 (.loadN 3 (.t 2)),vI 10 1,iI 11 (.call 74 [(.t 9),(.t 10)]),vI 4 11])
 .ret)))
def r65:List RV:=[.t 4]
theorem fn65:cFn Tryz.prog 65=some (c65,r65,12):=by kernel_rfl
def c66:MC:=
 (.seq (.ops [iI 2 (.box (.t 0)),iI 4 (.mv (.c (.bool false)))])
 (.seq (.ops [vI 5 1,iI 6 (.bin .geq (.t 5) (.c (.int .i64 0))),vI 7 6,uI 8 1 7 true,jI 9 (.fadd 2 (.t 2)) 7 true,jI 10 (.load1 (.t 9)) 7 true,jI 11 (.len true (.t 10)) 7 true,jI 12 (.bin .lss (.t 8) (.t 11)) 7 true,iI 13 (.pick (.t 7) (.t 12) (.c (.bool false))),vI 14 13,jI 15 (.fadd 2 (.t 2)) 14 true,jI 16 (.load1 (.t 15)) 14 true,uI 17 1 14 true,jI 18 (.idxS (.t 16) (.t 17)) 14 true,jI 19 (.bin .neq (.t 18) (.c (.int .u8 35))) 14 true,iI 20 (.pick (.t 14) (.t 19) (.c (.bool false))),vI 4 20])
 .ret))
def r66:List RV:=[.t 4]
theorem fn66:cFn Tryz.prog 66=some (c66,r66,21):=by kernel_rfl
def c67:MC:=
 (.seq (.ops [iI 4 (.mv (.c (.int .i64 0)))])
 (.seq (.seq (.ops [vI 6 0,iI 7 (.len false (.t 6)),iI 8 (.mv (.c (.int .i64 0)))])
 (.block 0 (.loop (.seq (.ops [iI 9 (.bin .lss (.t 8) (.t 7))])
 (.seq (.cond (.t 9) .skip (.exit 0))
 (.seq (.block 1 (.seq (.ops [vI 10 8,vI 5 10])
 (.seq (.ops [vI 11 1,vI 12 0,vI 13 5,iI 14 (.iaS 1 (.t 12) (.t 13)),iI 15 (.load1 (.t 14)),iI 16 (.bin .eql (.t 11) (.t 15))])
 (.cond (.t 16) (.seq (.ops [vI 17 5,vI 4 17])
 .ret) .skip))))
 (.ops [iI 18 (.bin .add (.t 8) (.c (.int .i64 1))),vI 8 18])))))))
 (.seq (.ops [iI 4 (.mv (.c (.int .i64 (-1))))])
 .ret)))
def r67:List RV:=[.t 4]
theorem fn67:cFn Tryz.prog 67=some (c67,r67,19):=by kernel_rfl
def c68:MC:=
 (.seq (.ops [iI 2 (.mv (.c (.bool false)))])
 (.seq (.ops [vI 3 0,iI 4 (.bin .geq (.t 3) (.c (.int .i64 1))),vI 5 4,uI 6 0 5 true,jI 7 (.bin .leq (.t 6) (.c (.int .i64 8))) 5 true,iI 8 (.pick (.t 5) (.t 7) (.c (.bool false))),vI 2 8])
 .ret))
def r68:List RV:=[.t 2]
theorem fn68:cFn Tryz.prog 68=some (c68,r68,9):=by kernel_rfl
def c69:MC:=
 (.seq (.ops [iI 4 (.mv (.c (.string ⟨#[]⟩)))])
 (.seq (.seq (.ops [vI 7 0,iI 8 (.bin .eql (.t 7) (.c (.string ⟨#[]⟩))),vI 9 8,uI 10 1 9 false,jI 11 (.bin .eql (.t 10) (.c (.string ⟨#[]⟩))) 9 false,iI 12 (.pick (.t 9) (.c (.bool true)) (.t 11))])
 (.cond (.t 12) (.seq (.ops [vI 13 0,vI 4 13])
 .ret) .skip))
 (.seq (.seq (.ops [vI 14 1,iI 15 (.len true (.t 14)),iI 16 (.bin .eql (.t 15) (.c (.int .i64 1))),vI 17 16,uI 18 1 17 true,jI 19 (.idxS (.t 18) (.c (.int .i64 0))) 17 true,jI 20 (.bin .lss (.t 19) (.c (.int .u8 128))) 17 true,iI 21 (.pick (.t 17) (.t 20) (.c (.bool false)))])
 (.cond (.t 21) (.seq (.dops [dI (vI 22 0) 0,dI (vI 23 1) 1,dI (iI 24 (.idxS (.t 23) (.c (.int .i64 0)))) 2,dI (vI 26 1) 4,dI (iI 27 (.idxS (.t 26) (.c (.int .i64 0)))) 5,pI (iI 25 (.call 101 [(.t 22),(.t 24)])) 3,pI (iI 28 (.call 100 [(.t 25),(.t 27)])) 6,dI (vI 4 28) 7])
 .ret) .skip))
 (.seq (.seq (.ops [vI 30 1,iI 31 (.call 102 [(.t 30)]),vI 29 31,iI 32 (.ext (.t 29) 0),iI 33 (.ext (.t 29) 1),iI 5 (.alloc (List.replicate 256 (.bool false))),sI (.store 256 (.t 5) (.t 32)),vI 6 33])
 (.seq (.ops [vI 34 6])
 (.cond (.t 34) (.seq (.ops [vI 35 0,iI 36 (.call 104 [(.t 35),(.t 5)]),iI 37 (.call 103 [(.t 36),(.t 5)]),vI 4 37])
 .ret) .skip)))
 (.seq (.ops [vI 38 0,vI 39 1,iI 40 (.call 106 [(.t 38),(.t 39)]),vI 41 1,iI 42 (.call 105 [(.t 40),(.t 41)]),vI 4 42])
 .ret)))))
def r69:List RV:=[.t 4]
theorem fn69:cFn Tryz.prog 69=some (c69,r69,43):=by kernel_rfl
def c70:MC:=
 (.seq (.ops [iI 4 (.mv (.c (.bool false)))])
 (.seq (.ops [vI 5 0,vI 6 1,iI 7 (.call 107 [(.t 5),(.t 6)]),iI 8 (.bin .geq (.t 7) (.c (.int .i64 0))),vI 4 8])
 .ret))
def r70:List RV:=[.t 4]
theorem fn70:cFn Tryz.prog 70=some (c70,r70,9):=by kernel_rfl
def c71:MC:=
 (.seq (.ops [iI 2 (.mv (.c (.bool false)))])
 (.seq (.ops [vI 3 0,iI 4 (.call 72 [(.c (.string ⟨#[35,46,67,80]⟩)),(.t 3)]),iI 5 (.not (.t 4)),vI 2 5])
 .ret))
def r71:List RV:=[.t 2]
theorem fn71:cFn Tryz.prog 71=some (c71,r71,6):=by kernel_rfl
def c74:MC:=
 (.seq (.ops [iI 2 (.box (.t 0)),iI 4 (.mv (.c (.slice none 0 0)))])
 (.seq (.ops [iI 5 (.alloc [(.slice none 0 0)])])
 (.seq (.ops [iI 8 (.mkf (.func 113) [] [(.t 2),(.t 5)]),vI 6 8])
 (.seq (.ops [vI 9 1,iI 10 (.fadd 0 (.t 2)),iI 11 (.load1 (.t 10)),iI 12 (.bin .rem (.t 9) (.t 11)),vI 7 12])
 (.seq (.ops [vI 13 6,vI 14 1,iI 15 (.fadd 0 (.t 2)),iI 16 (.load1 (.t 15)),iI 17 (.bin .sub (.t 14) (.t 16)),iI 18 (.callv (.t 13) [(.t 17),(.c (.bool true))])])
 (.seq (.ops [vI 19 6,vI 20 1,iI 21 (.bin .sub (.t 20) (.c (.int .i64 1))),vI 22 7,iI 23 (.bin .gtr (.t 22) (.c (.int .i64 0))),iI 24 (.callv (.t 19) [(.t 21),(.t 23)])])
 (.seq (.ops [vI 25 6,vI 26 1,iI 27 (.bin .add (.t 26) (.c (.int .i64 1))),vI 28 7,iI 29 (.fadd 0 (.t 2)),iI 30 (.load1 (.t 29)),iI 31 (.bin .sub (.t 30) (.c (.int .i64 1))),iI 32 (.bin .lss (.t 28) (.t 31)),iI 33 (.callv (.t 25) [(.t 27),(.t 32)])])
 (.seq (.ops [vI 34 6,vI 35 1,iI 36 (.fadd 0 (.t 2)),iI 37 (.load1 (.t 36)),iI 38 (.bin .add (.t 35) (.t 37)),iI 39 (.callv (.t 34) [(.t 38),(.c (.bool true))])])
 (.seq (.ops [iI 40 (.load1 (.t 5)),vI 4 40])
 .ret)))))))))
def r74:List RV:=[.t 4]
theorem fn74:cFn Tryz.prog 74=some (c74,r74,41):=by kernel_rfl
def c80:MC:=
 (.seq (.ops [iI 2 (.box (.t 0)),iI 4 (.alloc [(.int .i64 0),(.int .i64 0),(.int .i64 0),(.int .i64 0)]),iI 5 (.mv (.c .nilIface))])
 (.seq (.seq (.ops [iI 6 (.loadN 4 (.t 2)),iI 7 (.call 114 [(.t 6)]),iI 8 (.not (.t 7)),vI 9 8,uI 10 1 9 false,jI 11 (.call 115 [(.t 10)]) 9 false,jI 12 (.not (.t 11)) 9 false,iI 13 (.pick (.t 9) (.c (.bool true)) (.t 12))])
 (.cond (.t 13) (.seq (.ops [iI 14 (.bld [(.int .i64 0),(.int .i64 0),(.int .i64 0),(.int .i64 0)] []),iI 15 (.mki 78 (.c (.int .i64 1))),iI 16 (.call 33 [(.c (.string ⟨#[115,101,116]⟩)),(.t 15)]),sI (.store 4 (.t 4) (.t 14)),vI 5 16])
 .ret) .skip))
 (.seq (.ops [iI 17 (.fadd 3 (.t 2)),iI 18 (.load1 (.t 17)),vI 19 1,iI 20 (.fadd 0 (.t 2)),iI 21 (.load1 (.t 20)),iI 22 (.bin .sub (.t 19) (.t 21)),iI 23 (.bin .add (.t 18) (.t 22)),iI 24 (.fadd 3 (.t 2)),sI (.store 1 (.t 24) (.t 23))])
 (.seq (.ops [vI 25 1,iI 26 (.fadd 0 (.t 2)),sI (.store 1 (.t 26) (.t 25))])
 (.seq (.ops [iI 27 (.loadN 4 (.t 2)),iI 28 (.call 116 [(.t 27)]),iI 29 (.ext (.t 28) 0),iI 30 (.ext (.t 28) 1),sI (.store 4 (.t 4) (.t 29)),vI 5 30])
 .ret)))))
def r80:List RV:=[.cell 4 4 true,.t 5]
theorem fn80:cFn Tryz.prog 80=some (c80,r80,31):=by kernel_rfl
def c81:MC:=
 (.seq (.ops [iI 1 (.box (.t 0)),iI 2 (.alloc [(.int .i64 0),(.int .i64 0),(.int .i64 0),(.int .i64 0)])])
 (.seq (.ops [iI 3 (.fadd 1 (.t 1)),iI 4 (.load1 (.t 3)),iI 5 (.fadd 4 (.t 1)),iI 6 (.load1 (.t 5)),iI 7 (.fadd 5 (.t 1)),iI 8 (.load1 (.t 7)),iI 9 (.fadd 6 (.t 1)),iI 10 (.load1 (.t 9)),iI 11 (.bld [(.int .i64 0),(.int .i64 0),(.int .i64 0),(.int .i64 0)] [(0,1,(.t 4)),(1,1,(.t 6)),(2,1,(.t 8)),(3,1,(.t 10))]),sI (.store 4 (.t 2) (.t 11))])
 .ret))
def r81:List RV:=[.cell 2 4 true]
theorem fn81:cFn Tryz.prog 81=some (c81,r81,12):=by kernel_rfl
def c82:MC:=
 (.seq (.ops [iI 2 (.box (.t 0)),iI 3 (.box (.t 1)),iI 4 (.alloc [(.int .i64 0),(.int .i64 0),(.int .i64 0),(.int .i64 0),(.int .i64 0),(.int .i64 0),(.int .i64 0)])])
 (.seq (.dops [dI (iI 5 (.fadd 0 (.t 3))) 0,dI (iI 6 (.load1 (.t 5))) 1,dI (iI 7 (.fadd 1 (.t 3))) 2,dI (iI 8 (.load1 (.t 7))) 3,dI (iI 9 (.fadd 2 (.t 3))) 4,dI (iI 10 (.load1 (.t 9))) 5,dI (iI 11 (.fadd 3 (.t 3))) 6,dI (iI 12 (.load1 (.t 11))) 7,dI (iI 13 (.fadd 1 (.t 2))) 8,qI (sI (.store 1 (.t 13) (.t 6))) 9,dI (iI 14 (.fadd 4 (.t 2))) 10,qI (sI (.store 1 (.t 14) (.t 8))) 11,dI (iI 15 (.fadd 5 (.t 2))) 12,qI (sI (.store 1 (.t 15) (.t 10))) 13,dI (iI 16 (.fadd 6 (.t 2))) 14,pI (sI (.store 1 (.t 16) (.t 12))) 15])
 (.seq (.ops [iI 17 (.loadN 7 (.t 2)),sI (.store 7 (.t 4) (.t 17))])
 .ret)))
def r82:List RV:=[.cell 4 7 true]
theorem fn82:cFn Tryz.prog 82=some (c82,r82,18):=by kernel_rfl
def c83:MC:=
 (.seq (.ops [iI 2 (.mv (.c (.int .u8 0)))])
 (.seq (.ops [vI 3 0,iI 4 (.bin .rem (.t 3) (.c (.int .i64 8))),iI 5 (.bin .shl (.c (.int .u8 1)) (.t 4)),vI 2 5])
 .ret))
def r83:List RV:=[.t 2]
theorem fn83:cFn Tryz.prog 83=some (c83,r83,6):=by kernel_rfl
def c84:MC:=
 (.seq (.ops [iI 2 (.box (.t 0)),iI 3 (.box (.t 1)),iI 4 (.mv (.c (.slice none 0 0)))])
 (.seq (.ops [iI 5 (.loadN 3 (.t 2)),iI 6 (.call 26 [(.t 5),(.c (.int .u8 67))]),iI 7 (.mkf (.func 118) [] [(.t 3)]),iI 8 (.call 117 [(.t 6),(.t 7)]),vI 4 8])
 .ret))
def r84:List RV:=[.t 4]
theorem fn84:cFn Tryz.prog 84=some (c84,r84,9):=by kernel_rfl
def c85:MC:=
 (.seq (.ops [iI 6 (.mv (.c (.int .i64 0)))])
 (.block 0 (.loop (.seq (.ops [iI 7 (.bin .lss (.t 6) (.c (.int .i64 10)))])
 (.seq (.cond (.t 7) .skip (.exit 0))
 (.seq (.block 1 (.seq (.ops [vI 8 6,vI 4 8])
 (.seq (.ops [vI 9 0,vI 10 4,iI 11 (.nilck (.t 9)),iI 12 (.fadd 12 (.t 11)),iI 13 (.iaA 10 7 (.t 12) (.t 10)),vI 5 13])
 (.block 2 (.seq (.ops [vI 15 0,vI 16 4,iI 17 (.nilck (.t 15)),iI 18 (.fadd 82 (.t 17)),iI 19 (.iaA 10 1 (.t 18) (.t 16)),iI 20 (.load1 (.t 19)),iI 21 (.not (.t 20)),vI 14 21])
 (.cond (.t 14) (.exit 1) (.seq (.dops [dI (vI 23 0) 0,dI (iI 24 (.nilck (.t 23))) 1,dI (iI 25 (.fadd 0 (.t 24))) 2,dI (iI 26 (.loadN 3 (.t 25))) 3,dI (vI 27 1) 4,dI (vI 28 5) 5,dI (iI 29 (.nilck (.t 28))) 6,dI (iI 30 (.fadd 0 (.t 29))) 7,dI (iI 31 (.load1 (.t 30))) 8,dI (vI 32 5) 9,dI (iI 33 (.nilck (.t 32))) 10,dI (iI 34 (.fadd 1 (.t 33))) 11,dI (iI 35 (.load1 (.t 34))) 12,dI (vI 36 0) 13,dI (iI 37 (.nilck (.t 36))) 14,dI (iI 38 (.loadN 172 (.t 37))) 15,dI (vI 39 5) 16,dI (iI 40 (.nilck (.t 39))) 17,dI (iI 41 (.loadN 7 (.t 40))) 18,qI (iI 42 (.call 120 [(.t 38),(.t 41)])) 19,pI (iI 43 (.call 119 [(.t 26),(.t 27),(.t 31),(.t 35),(.t 42)])) 20,dI (iI 44 (.not (.t 43))) 21,dI (vI 22 44) 22])
 (.cond (.t 22) (.ops [vI 45 5,iI 46 (.nilck (.t 45)),iI 47 (.fadd 2 (.t 46)),sI (.store 1 (.t 47) (.c (.int .i64 4)))]) (.seq (.ops [vI 49 5,iI 50 (.nilck (.t 49)),iI 51 (.fadd 2 (.t 50)),iI 52 (.load1 (.t 51)),iI 53 (.bin .eql (.t 52) (.c (.int .i64 4))),vI 48 53])
 (.cond (.t 48) (.dops [dI (vI 54 5) 0,dI (vI 55 0) 1,dI (iI 56 (.nilck (.t 55))) 2,dI (iI 57 (.loadN 172 (.t 56))) 3,dI (vI 58 5) 4,dI (iI 59 (.nilck (.t 58))) 5,dI (iI 60 (.loadN 7 (.t 59))) 6,pI (iI 61 (.call 121 [(.t 57),(.t 60)])) 7,dI (iI 62 (.nilck (.t 54))) 8,dI (iI 63 (.fadd 2 (.t 62))) 9,pI (sI (.store 1 (.t 63) (.t 61))) 10]) .skip))))))))))
 (.ops [iI 64 (.bin .add (.t 6) (.c (.int .i64 1))),vI 6 64])))))))
def r85:List RV:=[]
theorem fn85:cFn Tryz.prog 85=some (c85,r85,65):=by kernel_rfl
def c86:MC:=
 (.seq (.seq (.ops [iI 15 (.mv (.c (.int .i64 0)))])
 (.block 0 (.loop (.seq (.ops [iI 16 (.bin .lss (.t 15) (.c (.int .i64 20)))])
 (.seq (.cond (.t 16) .skip (.exit 0))
 (.seq (.block 1 (.seq (.ops [vI 17 15,vI 4 17])
 (.seq (.ops [vI 18 0,vI 19 4,iI 20 (.nilck (.t 18)),iI 21 (.fadd 92 (.t 20)),iI 22 (.iaA 20 3 (.t 21) (.t 19)),vI 5 22])
 (.seq (.seq (.ops [vI 23 0,vI 24 4,iI 25 (.nilck (.t 23)),iI 26 (.fadd 152 (.t 25)),iI 27 (.iaA 20 1 (.t 26) (.t 24)),iI 28 (.load1 (.t 27)),iI 29 (.not (.t 28)),vI 30 29,uI 31 5 30 false,jI 32 (.nilck (.t 31)) 30 false,jI 33 (.fadd 2 (.t 32)) 30 false,jI 34 (.load1 (.t 33)) 30 false,jI 35 (.bin .neq (.t 34) (.c (.int .i64 0))) 30 false,iI 36 (.pick (.t 30) (.c (.bool true)) (.t 35))])
 (.cond (.t 36) (.exit 1) .skip))
 (.seq (.ops [iI 6 (.mv (.c (.slice none 0 0)))])
 (.seq (.seq (.ops [vI 37 0,iI 38 (.nilck (.t 37)),iI 39 (.fadd 12 (.t 38)),iI 40 (.loadN 70 (.t 39)),iI 41 (.mv (.c (.int .i64 0)))])
 (.block 2 (.loop (.seq (.ops [iI 42 (.bin .lss (.t 41) (.c (.int .i64 10)))])
 (.seq (.cond (.t 42) .skip (.exit 2))
 (.seq (.block 3 (.seq (.ops [vI 43 41,iI 44 (.idxA 10 7 true (.t 40) (.t 41)),iI 8 (.alloc [(.int .i64 0),(.int .i64 0),(.int .i64 0),(.int .i64 0),(.int .i64 0),(.int .i64 0),(.int .i64 0)]),vI 7 43,sI (.store 7 (.t 8) (.t 44))])
 (.seq (.dops [dI (vI 46 0) 0,dI (iI 47 (.nilck (.t 46))) 1,dI (iI 48 (.fadd 0 (.t 47))) 2,dI (iI 49 (.loadN 3 (.t 48))) 3,dI (vI 50 1) 4,dI (iI 51 (.fadd 0 (.t 8))) 5,dI (iI 52 (.load1 (.t 51))) 6,dI (vI 53 5) 7,dI (iI 54 (.nilck (.t 53))) 8,dI (iI 55 (.fadd 0 (.t 54))) 9,dI (iI 56 (.load1 (.t 55))) 10,dI (vI 57 5) 11,dI (iI 58 (.nilck (.t 57))) 12,dI (iI 59 (.fadd 1 (.t 58))) 13,dI (iI 60 (.load1 (.t 59))) 14,pI (iI 61 (.call 122 [(.t 49),(.t 50),(.t 52),(.t 56),(.t 60)])) 15,dI (vI 45 61) 16,dI (iI 62 (.ext (.t 45) 0)) 17,dI (iI 63 (.ext (.t 45) 1)) 18,dI (vI 9 62) 19,dI (vI 10 63) 20])
 (.seq (.ops [vI 64 0,vI 65 7,iI 66 (.nilck (.t 64)),iI 67 (.fadd 82 (.t 66)),iI 68 (.iaA 10 1 (.t 67) (.t 65)),iI 69 (.load1 (.t 68)),vI 70 69,jI 71 (.fadd 2 (.t 8)) 70 true,jI 72 (.load1 (.t 71)) 70 true,jI 73 (.bin .eql (.t 72) (.c (.int .i64 0))) 70 true,iI 74 (.pick (.t 70) (.t 73) (.c (.bool false))),vI 75 74,uI 76 10 75 true,jI 77 (.eqN .iface false (.t 76) (.c .nilIface)) 75 true,iI 78 (.pick (.t 75) (.t 77) (.c (.bool false)))])
 (.cond (.t 78) (.ops [vI 79 6,vI 80 7,vI 81 9,iI 82 (.fadd 1 (.t 8)),iI 83 (.load1 (.t 82)),iI 84 (.bld [(.int .i64 0),(.int .i64 0),(.int .i64 0)] [(0,1,(.t 80)),(1,1,(.t 81)),(2,1,(.t 83))]),iI 85 (.bsl 3 1 [(.int .i64 0),(.int .i64 0),(.int .i64 0)] [(0,(.t 84))]),iI 86 (.app 3 24 (.t 79) (.t 85)),vI 6 86]) .skip)))))
 (.ops [iI 87 (.bin .add (.t 41) (.c (.int .i64 1))),vI 41 87])))))))
 (.seq (.ops [vI 89 6,iI 90 (.call 123 [(.t 89)]),vI 88 90,iI 91 (.ext (.t 88) 0),iI 92 (.ext (.t 88) 1),vI 11 91,vI 12 92])
 (.seq (.ops [vI 93 12])
 (.cond (.t 93) (.dops [dI (vI 94 0) 0,dI (vI 95 11) 1,dI (vI 96 0) 2,dI (vI 97 11) 3,dI (vI 98 5) 4,dI (vI 99 4) 5,dI (iI 100 (.nilck (.t 94))) 6,dI (iI 101 (.fadd 12 (.t 100))) 7,dI (iI 102 (.iaA 10 7 (.t 101) (.t 95))) 8,dI (iI 103 (.fadd 2 (.t 102))) 9,dI (iI 104 (.nilck (.t 96))) 11,dI (iI 105 (.fadd 12 (.t 104))) 12,pI (sI (.store 1 (.t 103) (.c (.int .i64 1)))) 10,dI (iI 106 (.iaA 10 7 (.t 105) (.t 97))) 13,dI (iI 107 (.fadd 3 (.t 106))) 14,pI (sI (.store 1 (.t 107) (.t 99))) 15,dI (iI 108 (.nilck (.t 98))) 16,dI (iI 109 (.fadd 2 (.t 108))) 17,pI (sI (.store 1 (.t 109) (.c (.int .i64 1)))) 18]) .skip)))))))))
 (.ops [iI 110 (.bin .add (.t 15) (.c (.int .i64 1))),vI 15 110])))))))
 (.seq (.ops [iI 111 (.mv (.c (.int .i64 0)))])
 (.block 4 (.loop (.seq (.ops [iI 112 (.bin .lss (.t 111) (.c (.int .i64 10)))])
 (.seq (.cond (.t 112) .skip (.exit 4))
 (.seq (.block 5 (.seq (.ops [vI 113 111,vI 13 113])
 (.seq (.ops [vI 114 0,vI 115 13,iI 116 (.nilck (.t 114)),iI 117 (.fadd 12 (.t 116)),iI 118 (.iaA 10 7 (.t 117) (.t 115)),vI 14 118])
 (.seq (.ops [vI 119 0,vI 120 13,iI 121 (.nilck (.t 119)),iI 122 (.fadd 82 (.t 121)),iI 123 (.iaA 10 1 (.t 122) (.t 120)),iI 124 (.load1 (.t 123)),vI 125 124,uI 126 14 125 true,jI 127 (.nilck (.t 126)) 125 true,jI 128 (.fadd 2 (.t 127)) 125 true,jI 129 (.load1 (.t 128)) 125 true,jI 130 (.bin .eql (.t 129) (.c (.int .i64 0))) 125 true,iI 131 (.pick (.t 125) (.t 130) (.c (.bool false))),vI 132 131,uI 133 14 132 true,jI 134 (.nilck (.t 133)) 132 true,jI 135 (.fadd 1 (.t 134)) 132 true,jI 136 (.load1 (.t 135)) 132 true,jI 137 (.bin .lss (.t 136) (.c (.int .i64 100))) 132 true,iI 138 (.pick (.t 132) (.t 137) (.c (.bool false)))])
 (.cond (.t 138) (.ops [vI 139 14,iI 140 (.nilck (.t 139)),iI 141 (.fadd 2 (.t 140)),sI (.store 1 (.t 141) (.c (.int .i64 3)))]) .skip)))))
 (.ops [iI 142 (.bin .add (.t 111) (.c (.int .i64 1))),vI 111 142]))))))))
def r86:List RV:=[]
theorem fn86:cFn Tryz.prog 86=some (c86,r86,143):=by kernel_rfl
def c87:MC:=
 (.seq (.ops [vI 10 0,vI 11 1,iI 12 (.nilck (.t 10)),iI 13 (.fadd 12 (.t 12)),iI 14 (.iaA 10 7 (.t 13) (.t 11)),iI 15 (.loadN 7 (.t 14)),iI 8 (.alloc [(.int .i64 0),(.int .i64 0),(.int .i64 0),(.int .i64 0),(.int .i64 0),(.int .i64 0),(.int .i64 0)]),sI (.store 7 (.t 8) (.t 15))])
 (.seq (.seq (.ops [vI 16 0,vI 17 1,iI 18 (.nilck (.t 16)),iI 19 (.fadd 82 (.t 18)),iI 20 (.iaA 10 1 (.t 19) (.t 17)),iI 21 (.load1 (.t 20)),iI 22 (.not (.t 21)),vI 23 22,jI 24 (.fadd 2 (.t 8)) 23 false,jI 25 (.load1 (.t 24)) 23 false,jI 26 (.bin .eql (.t 25) (.c (.int .i64 0))) 23 false,iI 27 (.pick (.t 23) (.c (.bool true)) (.t 26)),vI 28 27,jI 29 (.fadd 2 (.t 8)) 28 false,jI 30 (.load1 (.t 29)) 28 false,jI 31 (.bin .eql (.t 30) (.c (.int .i64 4))) 28 false,iI 32 (.pick (.t 28) (.c (.bool true)) (.t 31)),vI 33 32,uI 34 0 33 false,uI 35 1 33 false,uI 36 2 33 false,jI 37 (.call 124 [(.t 34),(.t 35),(.t 36)]) 33 false,iI 38 (.pick (.t 33) (.c (.bool true)) (.t 37))])
 (.cond (.t 38) .ret .skip))
 (.seq (.ops [vI 39 2,vI 9 39])
 (.seq (.seq (.ops [iI 40 (.fadd 2 (.t 8)),iI 41 (.load1 (.t 40))])
 (.block 0 (.seq (.ops [iI 43 (.bin .eql (.t 41) (.c (.int .i64 1))),vI 42 43])
 (.cond (.t 42) (.dops [dI (vI 44 0) 0,dI (iI 45 (.fadd 3 (.t 8))) 1,dI (iI 46 (.load1 (.t 45))) 2,dI (iI 47 (.nilck (.t 44))) 3,dI (iI 48 (.fadd 92 (.t 47))) 4,dI (iI 49 (.iaA 20 3 (.t 48) (.t 46))) 5,dI (iI 50 (.fadd 0 (.t 49))) 6,dI (iI 51 (.load1 (.t 50))) 7,pI (iI 52 (.bsl 1 1 [(.int .i64 0)] [(0,(.t 51))])) 8,dI (vI 9 52) 9]) (.seq (.ops [iI 54 (.bin .eql (.t 41) (.c (.int .i64 2))),vI 53 54])
 (.cond (.t 53) (.dops [dI (vI 55 0) 0,dI (iI 56 (.fadd 3 (.t 8))) 1,dI (iI 57 (.load1 (.t 56))) 2,dI (iI 58 (.nilck (.t 55))) 3,dI (iI 59 (.fadd 92 (.t 58))) 4,dI (iI 60 (.iaA 20 3 (.t 59) (.t 57))) 5,dI (iI 61 (.fadd 1 (.t 60))) 6,dI (iI 62 (.load1 (.t 61))) 7,pI (iI 63 (.bsl 1 1 [(.int .i64 0)] [(0,(.t 62))])) 8,dI (vI 9 63) 9]) .skip))))))
 (.ops [vI 64 0,vI 65 1,vI 66 9,vI 67 2,vI 68 3,iI 69 (.call 125 [(.t 64),(.t 65),(.t 66),(.t 67),(.t 68)])])))))
def r87:List RV:=[]
theorem fn87:cFn Tryz.prog 87=some (c87,r87,70):=by kernel_rfl
def c88:MC:=
 (.seq (.ops [iI 6 (.mv (.c (.bool false)))])
 (.seq (.ops [vI 7 0,vI 8 1,iI 9 (.bin .geq (.t 7) (.t 8)),vI 10 9,uI 11 0 10 true,uI 12 2 10 true,jI 13 (.bin .leq (.t 11) (.t 12)) 10 true,iI 14 (.pick (.t 10) (.t 13) (.c (.bool false))),vI 6 14])
 .ret))
def r88:List RV:=[.t 6]
theorem fn88:cFn Tryz.prog 88=some (c88,r88,15):=by kernel_rfl
def c89:MC:=
 (.seq (.ops [iI 0 (.mv (.c .nilIface))])
 (.seq (.ops [iI 1 (.mki 78 (.c (.int .i64 8))),iI 2 (.call 33 [(.c (.string ⟨#[114,101,99]⟩)),(.t 1)]),vI 0 2])
 .ret))
def r89:List RV:=[.t 0]
theorem fn89:cFn Tryz.prog 89=some (c89,r89,3):=by kernel_rfl
def c90:MC:=
 (.seq (.ops [iI 4 (.mv (.c (.string ⟨#[]⟩)))])
 (.seq (.seq (.ops [vI 7 0,vI 8 1,iI 9 (.call 126 [(.t 7),(.t 8)]),iI 10 (.not (.t 9))])
 (.cond (.t 10) (.seq (.ops [iI 4 (.mv (.c (.string ⟨#[]⟩)))])
 .ret) .skip))
 (.seq (.ops [iI 5 (.mv (.c (.slice none 0 0)))])
 (.seq (.seq (.ops [vI 11 0,iI 12 (.mv (.c (.int .i64 0)))])
 (.block 0 (.loop (.seq (.ops [iI 13 (.bin .lss (.t 12) (.t 11))])
 (.seq (.cond (.t 13) .skip (.exit 0))
 (.seq (.block 1 (.seq (.ops [vI 14 12,vI 6 14])
 (.ops [vI 15 5,vI 16 1,vI 17 0,iI 18 (.bin .sub (.t 17) (.c (.int .i64 1))),vI 19 6,iI 20 (.bin .sub (.t 18) (.t 19)),iI 21 (.bin .mul (.c (.int .i64 8)) (.t 20)),iI 22 (.bin .shr (.t 16) (.t 21)),iI 23 (.conv .u8 (.t 22)),iI 24 (.bsl 1 1 [(.int .u8 0)] [(0,(.t 23))]),iI 25 (.app 1 1 (.t 15) (.t 24)),vI 5 25])))
 (.ops [iI 26 (.bin .add (.t 12) (.c (.int .i64 1))),vI 12 26])))))))
 (.seq (.ops [vI 27 5,iI 28 (.b2s (.t 27)),vI 4 28])
 .ret)))))
def r90:List RV:=[.t 4]
theorem fn90:cFn Tryz.prog 90=some (c90,r90,29):=by kernel_rfl
def c91:MC:=
 (.seq (.ops [iI 2 (.mv (.c (.bool false)))])
 (.seq (.seq (.ops [vI 5 0,iI 6 (.len false (.t 5)),iI 7 (.mv (.c (.int .i64 0)))])
 (.block 0 (.loop (.seq (.ops [iI 8 (.bin .lss (.t 7) (.t 6))])
 (.seq (.cond (.t 8) .skip (.exit 0))
 (.seq (.block 1 (.seq (.ops [iI 9 (.iaS 1 (.t 5) (.t 7)),iI 10 (.load1 (.t 9)),vI 4 10])
 (.seq (.ops [vI 11 4,iI 12 (.not (.t 11))])
 (.cond (.t 12) (.seq (.ops [iI 2 (.mv (.c (.bool false)))])
 .ret) .skip))))
 (.ops [iI 13 (.bin .add (.t 7) (.c (.int .i64 1))),vI 7 13])))))))
 (.seq (.ops [iI 2 (.mv (.c (.bool true)))])
 .ret)))
def r91:List RV:=[.t 2]
theorem fn91:cFn Tryz.prog 91=some (c91,r91,14):=by kernel_rfl
def c92:MC:=
 (.seq (.ops [iI 4 (.mv (.c (.string ⟨#[]⟩))),iI 5 (.mv (.c .nilIface))])
 (.seq (.seq (.ops [vI 9 0,iI 10 (.call 127 [(.t 9)]),iI 11 (.bin .lss (.t 10) (.c (.int .i64 0))),vI 12 11,uI 13 1 12 false,jI 14 (.len false (.t 13)) 12 false,uI 15 0 12 false,jI 16 (.len false (.t 15)) 12 false,jI 17 (.bin .neq (.t 14) (.t 16)) 12 false,iI 18 (.pick (.t 12) (.c (.bool true)) (.t 17))])
 (.cond (.t 18) (.seq (.ops [iI 19 (.mki 78 (.c (.int .i64 1))),iI 20 (.call 33 [(.c (.string ⟨#[102,105,101,108,100,115]⟩)),(.t 19)]),iI 4 (.mv (.c (.string ⟨#[]⟩))),vI 5 20])
 .ret) .skip))
 (.seq (.ops [iI 6 (.allocT 200 [(.pointer none),(.slice none 0 0)])])
 (.seq (.seq (.ops [vI 21 1,iI 22 (.len false (.t 21)),iI 23 (.mv (.c (.int .i64 0)))])
 (.block 0 (.loop (.seq (.ops [iI 24 (.bin .lss (.t 23) (.t 22))])
 (.seq (.cond (.t 24) .skip (.exit 0))
 (.seq (.block 1 (.seq (.ops [vI 25 23,iI 26 (.iaS 1 (.t 21) (.t 23)),iI 27 (.load1 (.t 26)),vI 7 25,vI 8 27])
 (.seq (.seq (.ops [vI 28 0,vI 29 7,iI 30 (.iaS 1 (.t 28) (.t 29)),iI 31 (.load1 (.t 30)),vI 32 8,iI 33 (.call 126 [(.t 31),(.t 32)]),iI 34 (.not (.t 33))])
 (.cond (.t 34) (.seq (.ops [iI 35 (.mki 78 (.c (.int .i64 8))),iI 36 (.call 33 [(.c (.string ⟨#[102,105,101,108,100,115]⟩)),(.t 35)]),iI 4 (.mv (.c (.string ⟨#[]⟩))),vI 5 36])
 .ret) .skip))
 (.ops [vI 37 0,vI 38 7,iI 39 (.iaS 1 (.t 37) (.t 38)),iI 40 (.load1 (.t 39)),vI 41 8,iI 42 (.call 90 [(.t 40),(.t 41)]),iI 43 (.call 128 [(.t 6),(.t 42)])]))))
 (.ops [iI 44 (.bin .add (.t 23) (.c (.int .i64 1))),vI 23 44])))))))
 (.seq (.ops [iI 45 (.call 129 [(.t 6)]),vI 4 45,iI 5 (.mv (.c .nilIface))])
 .ret)))))
def r92:List RV:=[.t 4,.t 5]
theorem fn92:cFn Tryz.prog 92=some (c92,r92,46):=by kernel_rfl
def c93:MC:=
 (.seq (.ops [iI 0 (.mv (.c (.slice none 0 0)))])
 (.seq (.ops [iI 1 (.bsl 1 7 [(.int .i64 0)] [(0,(.c (.int .i64 1))),(1,(.c (.int .i64 1))),(2,(.c (.int .i64 1))),(3,(.c (.int .i64 1))),(4,(.c (.int .i64 3))),(5,(.c (.int .i64 3))),(6,(.c (.int .i64 2)))]),vI 0 1])
 .ret))
def r93:List RV:=[.t 0]
theorem fn93:cFn Tryz.prog 93=some (c93,r93,2):=by kernel_rfl
def c94:MC:=
 (.seq (.ops [iI 0 (.mv (.c (.slice none 0 0)))])
 (.seq (.ops [iI 1 (.bsl 1 6 [(.int .i64 0)] [(0,(.c (.int .i64 1))),(1,(.c (.int .i64 1))),(2,(.c (.int .i64 1))),(3,(.c (.int .i64 4))),(4,(.c (.int .i64 4))),(5,(.c (.int .i64 1)))]),vI 0 1])
 .ret))
def r94:List RV:=[.t 0]
theorem fn94:cFn Tryz.prog 94=some (c94,r94,2):=by kernel_rfl
def c96:MC:=
 (.seq (.ops [iI 6 (.mv (.c (.bool false)))])
 (.seq (.dops [dI (vI 7 0) 0,dI (iI 8 (.nilck (.t 7))) 1,dI (iI 9 (.fadd 0 (.t 8))) 2,dI (iI 10 (.load1 (.t 9))) 3,dI (vI 11 1) 4,dI (iI 12 (.iaS 2 (.t 10) (.t 11))) 5,dI (iI 13 (.loadN 2 (.t 12))) 6,dI (vI 14 0) 7,dI (iI 15 (.nilck (.t 14))) 8,dI (iI 16 (.fadd 0 (.t 15))) 9,dI (iI 17 (.load1 (.t 16))) 10,dI (vI 18 2) 11,dI (iI 19 (.iaS 2 (.t 17) (.t 18))) 12,dI (iI 20 (.loadN 2 (.t 19))) 13,pI (iI 21 (.call 132 [(.t 13),(.t 20)])) 14,dI (vI 6 21) 15])
 .ret))
def r96:List RV:=[.t 6]
theorem fn96:cFn Tryz.prog 96=some (c96,r96,22):=by kernel_rfl
def c97:MC:=
 (.dops [dI (vI 6 0) 0,dI (iI 7 (.nilck (.t 6))) 1,dI (iI 8 (.fadd 0 (.t 7))) 2,dI (iI 9 (.load1 (.t 8))) 3,dI (vI 10 1) 4,dI (vI 11 0) 5,dI (iI 12 (.nilck (.t 11))) 6,dI (iI 13 (.fadd 0 (.t 12))) 7,dI (iI 14 (.load1 (.t 13))) 8,dI (vI 15 2) 9,dI (vI 16 0) 10,dI (iI 17 (.nilck (.t 16))) 11,dI (iI 18 (.fadd 0 (.t 17))) 12,dI (iI 19 (.load1 (.t 18))) 13,dI (vI 20 2) 14,dI (iI 21 (.iaS 2 (.t 19) (.t 20))) 15,dI (iI 22 (.loadN 2 (.t 21))) 16,dI (vI 23 0) 17,dI (iI 24 (.nilck (.t 23))) 18,dI (iI 25 (.fadd 0 (.t 24))) 19,dI (iI 26 (.load1 (.t 25))) 20,dI (vI 27 1) 21,dI (iI 28 (.iaS 2 (.t 26) (.t 27))) 22,dI (iI 29 (.loadN 2 (.t 28))) 23,dI (iI 30 (.iaS 2 (.t 9) (.t 10))) 24,pI (sI (.store 2 (.t 30) (.t 22))) 25,dI (iI 31 (.iaS 2 (.t 14) (.t 15))) 26,pI (sI (.store 2 (.t 31) (.t 29))) 27])
def r97:List RV:=[]
theorem fn97:cFn Tryz.prog 97=some (c97,r97,32):=by kernel_rfl
def c98:MC:=
 (.seq (.ops [iI 2 (.mv (.c (.int .i64 0)))])
 (.seq (.seq (.ops [vI 3 0,iI 4 (.eqN .ptr false (.t 3) (.c (.pointer none)))])
 (.cond (.t 4) (.seq (.ops [iI 2 (.mv (.c (.int .i64 0)))])
 .ret) .skip))
 (.seq (.ops [vI 5 0,iI 6 (.nilck (.t 5)),iI 7 (.fadd 0 (.t 6)),iI 8 (.load1 (.t 7)),iI 9 (.len false (.t 8)),vI 2 9])
 .ret)))
def r98:List RV:=[.t 2]
theorem fn98:cFn Tryz.prog 98=some (c98,r98,10):=by kernel_rfl
def c99:MC:=
 (.seq (.ops [iI 2 (.mv (.c (.int .i64 0)))])
 (.block 0 (.loop (.block 1 (.seq (.ops [vI 4 2,iI 5 (.bin .mul (.c (.int .i64 2)) (.t 4)),iI 6 (.bin .add (.t 5) (.c (.int .i64 1))),vI 3 6])
 (.seq (.seq (.ops [vI 7 3,vI 8 0,iI 9 (.nilck (.t 8)),iI 10 (.fadd 0 (.t 9)),iI 11 (.load1 (.t 10)),iI 12 (.len false (.t 11)),iI 13 (.bin .geq (.t 7) (.t 12))])
 (.cond (.t 13) .ret .skip))
 (.seq (.seq (.ops [vI 14 3,iI 15 (.bin .add (.t 14) (.c (.int .i64 1))),vI 16 0,iI 17 (.nilck (.t 16)),iI 18 (.fadd 0 (.t 17)),iI 19 (.load1 (.t 18)),iI 20 (.len false (.t 19)),iI 21 (.bin .lss (.t 15) (.t 20)),vI 22 21,uI 23 0 22 true,uI 24 3 22 true,jI 25 (.bin .add (.t 24) (.c (.int .i64 1))) 22 true,uI 26 3 22 true,jI 27 (.call 96 [(.t 23),(.t 25),(.t 26)]) 22 true,iI 28 (.pick (.t 22) (.t 27) (.c (.bool false)))])
 (.cond (.t 28) (.ops [vI 29 3,iI 30 (.bin .add (.t 29) (.c (.int .i64 1))),vI 3 30]) .skip))
 (.seq (.seq (.ops [vI 31 0,vI 32 3,vI 33 2,iI 34 (.call 96 [(.t 31),(.t 32),(.t 33)]),iI 35 (.not (.t 34))])
 (.cond (.t 35) .ret .skip))
 (.seq (.ops [vI 36 0,vI 37 2,vI 38 3,iI 39 (.call 97 [(.t 36),(.t 37),(.t 38)])])
 (.ops [vI 40 3,vI 2 40]))))))))))
def r99:List RV:=[]
theorem fn99:cFn Tryz.prog 99=some (c99,r99,41):=by kernel_rfl
def c103:MC:=
 (.seq (.ops [iI 4 (.mv (.c (.string ⟨#[]⟩)))])
 (.seq (.block 0 (.loop (.seq (.seq (.ops [vI 5 0,iI 6 (.len true (.t 5)),iI 7 (.bin .gtr (.t 6) (.c (.int .i64 0)))])
 (.cond (.t 7) .skip (.exit 0)))
 (.block 1 (.seq (.seq (.ops [vI 8 1,vI 9 0,iI 10 (.idxS (.t 9) (.c (.int .i64 0))),iI 11 (.call 133 [(.t 8),(.t 10)]),iI 12 (.not (.t 11))])
 (.cond (.t 12) (.exit 0) .skip))
 (.ops [vI 13 0,iI 14 (.slcS (.t 13) (some (.c (.int .i64 1))) none),vI 0 14]))))))
 (.seq (.ops [vI 15 0,vI 4 15])
 .ret)))
def r103:List RV:=[.t 4]
theorem fn103:cFn Tryz.prog 103=some (c103,r103,16):=by kernel_rfl
def c104:MC:=
 (.seq (.ops [iI 4 (.mv (.c (.string ⟨#[]⟩)))])
 (.seq (.block 0 (.loop (.seq (.seq (.ops [vI 5 0,iI 6 (.len true (.t 5)),iI 7 (.bin .gtr (.t 6) (.c (.int .i64 0)))])
 (.cond (.t 7) .skip (.exit 0)))
 (.block 1 (.seq (.seq (.ops [vI 8 1,vI 9 0,vI 10 0,iI 11 (.len true (.t 10)),iI 12 (.bin .sub (.t 11) (.c (.int .i64 1))),iI 13 (.idxS (.t 9) (.t 12)),iI 14 (.call 133 [(.t 8),(.t 13)]),iI 15 (.not (.t 14))])
 (.cond (.t 15) (.exit 0) .skip))
 (.ops [vI 16 0,vI 17 0,iI 18 (.len true (.t 17)),iI 19 (.bin .sub (.t 18) (.c (.int .i64 1))),iI 20 (.slcS (.t 16) none (some (.t 19))),vI 0 20]))))))
 (.seq (.ops [vI 21 0,vI 4 21])
 .ret)))
def r104:List RV:=[.t 4]
theorem fn104:cFn Tryz.prog 104=some (c104,r104,22):=by kernel_rfl
def c107:MC:=
 (.seq (.ops [iI 4 (.mv (.c (.int .i64 0)))])
 (.seq (.ops [vI 5 0,vI 6 1,iI 7 (.call 136 [(.t 5),(.t 6),(.c (.bool true))]),vI 4 7])
 .ret))
def r107:List RV:=[.t 4]
theorem fn107:cFn Tryz.prog 107=some (c107,r107,8):=by kernel_rfl
def c113:MC:=
 (.seq (.ops [vI 6 1,vI 7 6,jI 8 (.loadN 3 (.t 2)) 7 true,uI 9 0 7 true,jI 10 (.call 66 [(.t 8),(.t 9)]) 7 true,iI 11 (.pick (.t 7) (.t 10) (.c (.bool false)))])
 (.cond (.t 11) (.ops [iI 12 (.load1 (.t 3)),vI 13 0,iI 14 (.bsl 1 1 [(.int .i64 0)] [(0,(.t 13))]),iI 15 (.app 1 8 (.t 12) (.t 14)),sI (.store 1 (.t 3) (.t 15))]) .skip))
def r113:List RV:=[]
theorem fn113:cFn Tryz.prog 113=some (c113,r113,16):=by kernel_rfl
def c114:MC:=
 (.seq (.ops [iI 1 (.box (.t 0)),iI 2 (.mv (.c (.bool false)))])
 (.seq (.ops [iI 3 (.mv (.f 141))])
 (.seq (.ops [iI 4 (.fadd 0 (.t 1)),iI 5 (.load1 (.t 4)),iI 6 (.call 115 [(.t 5)]),vI 7 6,uI 8 3 7 true,jI 9 (.fadd 1 (.t 1)) 7 true,jI 10 (.load1 (.t 9)) 7 true,jI 11 (.callv (.t 8) [(.t 10),(.c (.int .i64 0))]) 7 true,iI 12 (.pick (.t 7) (.t 11) (.c (.bool false))),vI 13 12,uI 14 3 13 true,jI 15 (.fadd 2 (.t 1)) 13 true,jI 16 (.load1 (.t 15)) 13 true,jI 17 (.callv (.t 14) [(.t 16),(.c (.int .i64 0))]) 13 true,iI 18 (.pick (.t 13) (.t 17) (.c (.bool false))),vI 19 18,uI 20 3 19 true,jI 21 (.fadd 3 (.t 1)) 19 true,jI 22 (.load1 (.t 21)) 19 true,jI 23 (.callv (.t 20) [(.t 22),(.c (.int .i64 (-1099511627776)))]) 19 true,iI 24 (.pick (.t 19) (.t 23) (.c (.bool false))),vI 2 24])
 .ret)))
def r114:List RV:=[.t 2]
theorem fn114:cFn Tryz.prog 114=some (c114,r114,25):=by kernel_rfl
def c115:MC:=
 (.seq (.ops [iI 2 (.mv (.c (.bool false)))])
 (.seq (.ops [vI 3 0,iI 4 (.bin .geq (.t 3) (.c (.int .i64 0))),vI 5 4,uI 6 0 5 true,jI 7 (.bin .leq (.t 6) (.c (.int .i64 200))) 5 true,iI 8 (.pick (.t 5) (.t 7) (.c (.bool false))),vI 2 8])
 .ret))
def r115:List RV:=[.t 2]
theorem fn115:cFn Tryz.prog 115=some (c115,r115,9):=by kernel_rfl
def c116:MC:=
 (.seq (.ops [iI 1 (.box (.t 0)),iI 2 (.alloc [(.int .i64 0),(.int .i64 0),(.int .i64 0),(.int .i64 0)]),iI 3 (.mv (.c .nilIface))])
 (.seq (.seq (.ops [iI 4 (.loadN 4 (.t 1)),iI 5 (.call 114 [(.t 4)]),iI 6 (.not (.t 5))])
 (.cond (.t 6) (.seq (.ops [iI 7 (.bld [(.int .i64 0),(.int .i64 0),(.int .i64 0),(.int .i64 0)] []),iI 8 (.mki 78 (.c (.int .i64 8))),iI 9 (.call 33 [(.c (.string ⟨#[118,111,108,116]⟩)),(.t 8)]),sI (.store 4 (.t 2) (.t 7)),vI 3 9])
 .ret) .skip))
 (.seq (.ops [iI 10 (.loadN 4 (.t 1)),sI (.store 4 (.t 2) (.t 10)),iI 3 (.mv (.c .nilIface))])
 .ret)))
def r116:List RV:=[.cell 2 4 true,.t 3]
theorem fn116:cFn Tryz.prog 116=some (c116,r116,11):=by kernel_rfl
def c117:MC:=
 (.seq (.ops [iI 4 (.mv (.c (.slice none 0 0)))])
 (.seq (.ops [vI 8 0,vI 9 1,iI 10 (.call 142 [(.t 8),(.t 9)]),vI 5 10])
 (.seq (.seq (.ops [vI 11 5,iI 12 (.bin .eql (.t 11) (.c (.int .i64 (-1))))])
 (.cond (.t 12) (.seq (.ops [vI 13 0,vI 4 13])
 .ret) .skip))
 (.seq (.seq (.ops [vI 14 5,iI 15 (.bin .add (.t 14) (.c (.int .i64 1))),vI 6 15])
 (.block 0 (.loop (.seq (.seq (.ops [vI 16 6,vI 17 0,iI 18 (.len false (.t 17)),iI 19 (.bin .lss (.t 16) (.t 18))])
 (.cond (.t 19) .skip (.exit 0)))
 (.seq (.block 1 (.seq (.ops [vI 22 0,vI 23 6,iI 24 (.iaS 1 (.t 22) (.t 23)),iI 25 (.load1 (.t 24)),vI 7 25])
 (.seq (.ops [vI 26 1,vI 27 7,iI 28 (.callv (.t 26) [(.t 27)]),iI 29 (.not (.t 28))])
 (.cond (.t 29) (.seq (.ops [vI 30 0,vI 31 5,vI 32 7,iI 33 (.iaS 1 (.t 30) (.t 31)),sI (.store 1 (.t 33) (.t 32))])
 (.ops [vI 34 5,iI 35 (.bin .add (.t 34) (.c (.int .i64 1))),vI 5 35])) .skip))))
 (.ops [vI 20 6,iI 21 (.bin .add (.t 20) (.c (.int .i64 1))),vI 6 21]))))))
 (.seq (.ops [vI 36 0,vI 37 5,iI 38 (.slc 1 (.t 36) (some (.t 37)) none none),sI (.clr [(.int .i64 0)] (.t 38))])
 (.seq (.ops [vI 39 0,vI 40 5,iI 41 (.slc 1 (.t 39) none (some (.t 40)) none),vI 4 41])
 .ret))))))
def r117:List RV:=[.t 4]
theorem fn117:cFn Tryz.prog 117=some (c117,r117,42):=by kernel_rfl
def c118:MC:=
 (.seq (.ops [iI 3 (.mv (.c (.bool false)))])
 (.seq (.dops [dI (vI 4 0) 0,dI (iI 5 (.bin .quo (.t 4) (.c (.int .i64 8)))) 1,dI (iI 6 (.iaA 8 1 (.t 1) (.t 5))) 2,dI (iI 7 (.load1 (.t 6))) 3,dI (vI 8 0) 4,qI (iI 9 (.call 83 [(.t 8)])) 5,dI (iI 10 (.bin .and (.t 7) (.t 9))) 6,dI (iI 11 (.bin .neq (.t 10) (.c (.int .u8 0)))) 7,dI (vI 3 11) 8])
 .ret))
def r118:List RV:=[.t 3]
theorem fn118:cFn Tryz.prog 118=some (c118,r118,12):=by kernel_rfl
def c119:MC:=
 (.seq (.ops [iI 5 (.box (.t 0)),iI 10 (.mv (.c (.bool false)))])
 (.seq (.ops [iI 14 (.loadN 3 (.t 5)),vI 15 1,vI 16 2,vI 17 4,iI 18 (.call 27 [(.t 14),(.t 15),(.t 16),(.t 17)]),vI 13 18,iI 19 (.ext (.t 13) 0),iI 20 (.ext (.t 13) 1),vI 11 19,vI 12 20])
 (.seq (.ops [vI 21 12,vI 22 21,uI 23 3 22 true,uI 24 11 22 true,jI 25 (.bin .geq (.t 23) (.t 24)) 22 true,iI 26 (.pick (.t 22) (.t 25) (.c (.bool false))),vI 10 26])
 .ret)))
def r119:List RV:=[.t 10]
theorem fn119:cFn Tryz.prog 119=some (c119,r119,27):=by kernel_rfl
def c120:MC:=
 (.seq (.ops [iI 2 (.box (.t 0)),iI 3 (.box (.t 1)),iI 4 (.mv (.c (.int .i64 0)))])
 (.seq (.seq (.ops [iI 5 (.fadd 3 (.t 3)),iI 6 (.load1 (.t 5)),iI 7 (.bin .neq (.t 6) (.c (.int .i64 (-1)))),vI 8 7,jI 9 (.fadd 3 (.t 3)) 8 true,jI 10 (.load1 (.t 9)) 8 true,jI 11 (.fadd 92 (.t 2)) 8 true,jI 12 (.iaA 20 3 (.t 11) (.t 10)) 8 true,jI 13 (.fadd 2 (.t 12)) 8 true,jI 14 (.load1 (.t 13)) 8 true,jI 15 (.bin .eql (.t 14) (.c (.int .i64 2))) 8 true,iI 16 (.pick (.t 8) (.t 15) (.c (.bool false)))])
 (.cond (.t 16) (.seq (.ops [iI 4 (.mv (.c (.int .i64 2)))])
 .ret) .skip))
 (.seq (.ops [iI 4 (.mv (.c (.int .i64 1)))])
 .ret)))
def r120:List RV:=[.t 4]
theorem fn120:cFn Tryz.prog 120=some (c120,r120,17):=by kernel_rfl
def c121:MC:=
 (.seq (.ops [iI 2 (.box (.t 0)),iI 3 (.box (.t 1)),iI 4 (.mv (.c (.int .i64 0)))])
 (.seq (.seq (.ops [iI 5 (.fadd 3 (.t 3)),iI 6 (.load1 (.t 5)),iI 7 (.bin .eql (.t 6) (.c (.int .i64 (-1))))])
 (.cond (.t 7) (.seq (.ops [iI 4 (.mv (.c (.int .i64 0)))])
 .ret) .skip))
 (.seq (.ops [iI 8 (.fadd 3 (.t 3)),iI 9 (.load1 (.t 8)),iI 10 (.fadd 92 (.t 2)),iI 11 (.iaA 20 3 (.t 10) (.t 9)),iI 12 (.fadd 2 (.t 11)),iI 13 (.load1 (.t 12)),vI 4 13])
 .ret)))
def r121:List RV:=[.t 4]
theorem fn121:cFn Tryz.prog 121=some (c121,r121,14):=by kernel_rfl
def c122:MC:=
 (.seq (.ops [iI 5 (.box (.t 0)),iI 10 (.mv (.c (.int .i64 0))),iI 11 (.mv (.c .nilIface))])
 (.seq (.ops [iI 19 (.loadN 3 (.t 5)),vI 20 2,vI 21 3,iI 22 (.call 143 [(.t 19),(.t 20),(.t 21),(.c (.int .i64 1))]),vI 18 22,iI 23 (.ext (.t 18) 0),iI 24 (.ext (.t 18) 1),iI 25 (.ext (.t 18) 2),vI 12 23,vI 13 24,vI 14 25])
 (.seq (.seq (.ops [vI 26 14,iI 27 (.eqN .iface true (.t 26) (.c .nilIface))])
 (.cond (.t 27) (.seq (.ops [vI 28 14,iI 10 (.mv (.c (.int .i64 0))),vI 11 28])
 .ret) .skip))
 (.seq (.ops [iI 30 (.loadN 3 (.t 5)),vI 31 3,vI 32 4,iI 33 (.call 143 [(.t 30),(.t 31),(.t 32),(.c (.int .i64 2))]),vI 29 33,iI 34 (.ext (.t 29) 0),iI 35 (.ext (.t 29) 1),iI 36 (.ext (.t 29) 2),vI 15 34,vI 16 35,vI 14 36])
 (.seq (.seq (.ops [vI 37 14,iI 38 (.eqN .iface true (.t 37) (.c .nilIface))])
 (.cond (.t 38) (.seq (.ops [vI 39 14,iI 10 (.mv (.c (.int .i64 0))),vI 11 39])
 .ret) .skip))
 (.seq (.ops [iI 41 (.loadN 3 (.t 5)),vI 42 1,iI 43 (.call 41 [(.t 41),(.t 42),(.c (.int .i64 1))]),vI 40 43,iI 44 (.ext (.t 40) 0),iI 45 (.ext (.t 40) 1),vI 17 44,vI 14 45])
 (.seq (.seq (.ops [vI 46 14,iI 47 (.eqN .iface true (.t 46) (.c .nilIface)),vI 48 47,uI 49 17 48 false,uI 50 4 48 false,jI 51 (.iaS 1 (.t 49) (.t 50)) 48 false,jI 52 (.load1 (.t 51)) 48 false,jI 53 (.bin .lss (.t 52) (.c (.int .i64 0))) 48 false,iI 54 (.pick (.t 48) (.c (.bool true)) (.t 53))])
 (.cond (.t 54) (.seq (.ops [iI 55 (.mki 78 (.c (.int .i64 4))),iI 56 (.call 33 [(.c (.string ⟨#[116,111,116,97,108]⟩)),(.t 55)]),iI 10 (.mv (.c (.int .i64 0))),vI 11 56])
 .ret) .skip))
 (.seq (.ops [vI 57 13,vI 58 16,iI 59 (.bin .add (.t 57) (.t 58)),vI 60 17,vI 61 4,iI 62 (.iaS 1 (.t 60) (.t 61)),iI 63 (.load1 (.t 62)),iI 64 (.bin .add (.t 59) (.t 63)),vI 10 64,iI 11 (.mv (.c .nilIface))])
 .ret))))))))
def r122:List RV:=[.t 10,.t 11]
theorem fn122:cFn Tryz.prog 122=some (c122,r122,65):=by kernel_rfl
def c123:MC:=
 (.seq (.ops [iI 2 (.mv (.c (.int .i64 0))),iI 3 (.mv (.c (.bool false)))])
 (.seq (.ops [vI 5 0,iI 6 (.call 144 [(.t 5)]),vI 4 6])
 (.seq (.seq (.ops [vI 7 4,iI 8 (.len false (.t 7)),iI 9 (.bin .eql (.t 8) (.c (.int .i64 0)))])
 (.cond (.t 9) (.seq (.ops [iI 2 (.mv (.c (.int .i64 0))),iI 3 (.mv (.c (.bool false)))])
 .ret) .skip))
 (.seq (.ops [vI 10 4,iI 11 (.iaS 1 (.t 10) (.c (.int .i64 0))),iI 12 (.load1 (.t 11)),vI 2 12,iI 3 (.mv (.c (.bool true)))])
 .ret))))
def r123:List RV:=[.t 2,.t 3]
theorem fn123:cFn Tryz.prog 123=some (c123,r123,13):=by kernel_rfl
def c124:MC:=
 (.seq (.ops [iI 6 (.mv (.c (.bool false)))])
 (.seq (.ops [vI 12 0,vI 13 1,iI 14 (.nilck (.t 12)),iI 15 (.fadd 12 (.t 14)),iI 16 (.iaA 10 7 (.t 15) (.t 13)),vI 7 16])
 (.seq (.seq (.ops [vI 17 7,iI 18 (.nilck (.t 17)),iI 19 (.fadd 2 (.t 18)),iI 20 (.load1 (.t 19))])
 (.block 0 (.seq (.ops [iI 22 (.bin .eql (.t 20) (.c (.int .i64 1))),vI 21 22])
 (.cond (.t 21) (.seq (.dops [dI (vI 23 0) 0,dI (vI 24 7) 1,dI (iI 25 (.nilck (.t 24))) 2,dI (iI 26 (.fadd 3 (.t 25))) 3,dI (iI 27 (.load1 (.t 26))) 4,dI (iI 28 (.nilck (.t 23))) 5,dI (iI 29 (.fadd 92 (.t 28))) 6,dI (iI 30 (.iaA 20 3 (.t 29) (.t 27))) 7,dI (vI 8 30) 8])
 (.seq (.seq (.dops [dI (vI 31 7) 0,dI (iI 32 (.nilck (.t 31))) 1,dI (iI 33 (.fadd 0 (.t 32))) 2,dI (iI 34 (.load1 (.t 33))) 3,dI (vI 35 8) 4,dI (iI 36 (.nilck (.t 35))) 5,dI (iI 37 (.fadd 0 (.t 36))) 6,dI (iI 38 (.load1 (.t 37))) 7,dI (iI 39 (.bin .eql (.t 34) (.t 38))) 8,dI (vI 40 39) 9,dI (uI 41 0 40 true) 10,dI (jI 42 (.nilck (.t 41)) 40 true) 11,dI (jI 43 (.fadd 0 (.t 42)) 40 true) 12,dI (jI 44 (.loadN 3 (.t 43)) 40 true) 13,dI (uI 45 2 40 true) 14,dI (uI 46 7 40 true) 15,dI (jI 47 (.nilck (.t 46)) 40 true) 16,dI (jI 48 (.fadd 0 (.t 47)) 40 true) 17,dI (jI 49 (.load1 (.t 48)) 40 true) 18,dI (uI 50 7 40 true) 19,dI (jI 51 (.nilck (.t 50)) 40 true) 20,dI (jI 52 (.fadd 1 (.t 51)) 40 true) 21,dI (jI 53 (.load1 (.t 52)) 40 true) 22,pI (jI 54 (.call 119 [(.t 44),(.t 45),(.t 49),(.t 53),(.c (.int .i64 2))]) 40 true) 23,dI (iI 55 (.pick (.t 40) (.t 54) (.c (.bool false)))) 24])
 (.cond (.t 55) (.ops [vI 56 7,vI 57 8,iI 58 (.nilck (.t 56)),iI 59 (.fadd 2 (.t 58)),sI (.store 1 (.t 59) (.c (.int .i64 2))),iI 60 (.nilck (.t 57)),iI 61 (.fadd 2 (.t 60)),sI (.store 1 (.t 61) (.c (.int .i64 2)))]) .skip))
 (.seq (.dops [dI (vI 62 7) 0,dI (iI 63 (.nilck (.t 62))) 1,dI (iI 64 (.fadd 0 (.t 63))) 2,dI (iI 65 (.load1 (.t 64))) 3,dI (vI 66 8) 4,dI (iI 67 (.nilck (.t 66))) 5,dI (iI 68 (.fadd 0 (.t 67))) 6,dI (iI 69 (.load1 (.t 68))) 7,dI (iI 70 (.bin .eql (.t 65) (.t 69))) 8,dI (vI 6 70) 9])
 .ret))) (.seq (.ops [iI 72 (.bin .eql (.t 20) (.c (.int .i64 2))),vI 71 72])
 (.cond (.t 71) (.seq (.dops [dI (vI 73 0) 0,dI (vI 74 7) 1,dI (iI 75 (.nilck (.t 74))) 2,dI (iI 76 (.fadd 3 (.t 75))) 3,dI (iI 77 (.load1 (.t 76))) 4,dI (iI 78 (.nilck (.t 73))) 5,dI (iI 79 (.fadd 92 (.t 78))) 6,dI (iI 80 (.iaA 20 3 (.t 79) (.t 77))) 7,dI (vI 9 80) 8])
 (.seq (.seq (.dops [dI (vI 81 7) 0,dI (iI 82 (.nilck (.t 81))) 1,dI (iI 83 (.fadd 0 (.t 82))) 2,dI (iI 84 (.load1 (.t 83))) 3,dI (vI 85 9) 4,dI (iI 86 (.nilck (.t 85))) 5,dI (iI 87 (.fadd 1 (.t 86))) 6,dI (iI 88 (.load1 (.t 87))) 7,dI (iI 89 (.bin .neq (.t 84) (.t 88))) 8])
 (.cond (.t 89) (.seq (.ops [iI 6 (.mv (.c (.bool false)))])
 .ret) .skip))
 (.seq (.ops [vI 90 7,vI 91 7,vI 92 9,iI 93 (.nilck (.t 90)),iI 94 (.fadd 2 (.t 93)),sI (.store 1 (.t 94) (.c (.int .i64 0))),iI 95 (.nilck (.t 91)),iI 96 (.fadd 3 (.t 95)),sI (.store 1 (.t 96) (.c (.int .i64 (-1)))),iI 97 (.nilck (.t 92)),iI 98 (.fadd 2 (.t 97)),sI (.store 1 (.t 98) (.c (.int .i64 3)))])
 (.seq (.ops [iI 6 (.mv (.c (.bool true)))])
 .ret)))) .skip))))))
 (.seq (.seq (.ops [vI 99 2,vI 100 7,iI 101 (.nilck (.t 100)),iI 102 (.fadd 0 (.t 101)),iI 103 (.load1 (.t 102)),iI 104 (.call 43 [(.t 99),(.t 103)]),iI 105 (.not (.t 104))])
 (.cond (.t 105) (.seq (.ops [iI 6 (.mv (.c (.bool false)))])
 .ret) .skip))
 (.seq (.seq (.ops [vI 107 7,iI 108 (.nilck (.t 107)),iI 109 (.loadN 7 (.t 108)),iI 110 (.call 81 [(.t 109)]),iI 111 (.call 145 [(.t 110),(.c (.int .i64 20))]),vI 106 111,iI 112 (.ext (.t 106) 0),iI 113 (.ext (.t 106) 1),iI 10 (.alloc [(.int .i64 0),(.int .i64 0),(.int .i64 0),(.int .i64 0)]),sI (.store 4 (.t 10) (.t 112)),vI 11 113])
 (.seq (.ops [vI 114 11,iI 115 (.eqN .iface false (.t 114) (.c .nilIface))])
 (.cond (.t 115) (.dops [dI (vI 116 7) 0,dI (vI 117 7) 1,dI (iI 118 (.nilck (.t 117))) 2,dI (iI 119 (.loadN 7 (.t 118))) 3,dI (iI 120 (.loadN 4 (.t 10))) 4,pI (iI 121 (.call 82 [(.t 119),(.t 120)])) 5,dI (iI 122 (.nilck (.t 116))) 6,pI (sI (.store 7 (.t 122) (.t 121))) 7]) .skip)))
 (.seq (.seq (.ops [vI 123 7,iI 124 (.nilck (.t 123)),iI 125 (.fadd 1 (.t 124)),iI 126 (.load1 (.t 125)),iI 127 (.bin .eql (.t 126) (.c (.int .i64 200)))])
 (.cond (.t 127) (.ops [vI 128 7,iI 129 (.nilck (.t 128)),iI 130 (.fadd 2 (.t 129)),sI (.store 1 (.t 130) (.c (.int .i64 0)))]) .skip))
 (.seq (.ops [iI 6 (.mv (.c (.bool true)))])
 .ret)))))))
def r124:List RV:=[.t 6]
theorem fn124:cFn Tryz.prog 124=some (c124,r124,131):=by kernel_rfl
def c125:MC:=
 (.seq (.ops [vI 18 0,vI 19 1,iI 20 (.nilck (.t 18)),iI 21 (.fadd 12 (.t 20)),iI 22 (.iaA 10 7 (.t 21) (.t 19)),vI 10 22])
 (.seq (.dops [dI (vI 23 0) 0,dI (iI 24 (.nilck (.t 23))) 1,dI (iI 25 (.loadN 172 (.t 24))) 2,dI (vI 26 10) 3,dI (iI 27 (.nilck (.t 26))) 4,dI (iI 28 (.loadN 7 (.t 27))) 5,pI (iI 29 (.call 120 [(.t 25),(.t 28)])) 6,dI (vI 11 29) 7])
 (.seq (.ops [vI 31 0,iI 32 (.nilck (.t 31)),iI 33 (.fadd 0 (.t 32)),iI 34 (.loadN 3 (.t 33)),vI 35 2,vI 36 11,iI 37 (.call 41 [(.t 34),(.t 35),(.t 36)]),vI 30 37,iI 38 (.ext (.t 30) 0),iI 39 (.ext (.t 30) 1),vI 12 38,vI 13 39])
 (.seq (.seq (.ops [vI 40 13,iI 41 (.eqN .iface true (.t 40) (.c .nilIface))])
 (.cond (.t 41) .ret .skip))
 (.seq (.dops [dI (vI 43 0) 0,dI (iI 44 (.nilck (.t 43))) 1,dI (iI 45 (.fadd 0 (.t 44))) 2,dI (iI 46 (.loadN 3 (.t 45))) 3,dI (vI 47 12) 4,dI (vI 48 10) 5,dI (iI 49 (.nilck (.t 48))) 6,dI (iI 50 (.fadd 0 (.t 49))) 7,dI (iI 51 (.load1 (.t 50))) 8,dI (vI 52 4) 9,dI (vI 53 0) 10,dI (iI 54 (.nilck (.t 53))) 11,dI (iI 55 (.loadN 172 (.t 54))) 12,dI (vI 59 0) 16,dI (iI 60 (.nilck (.t 59))) 17,dI (iI 61 (.fadd 0 (.t 60))) 18,dI (iI 62 (.fadd 2 (.t 61))) 19,dI (iI 63 (.load1 (.t 62))) 20,dI (iI 64 (.len true (.t 63))) 21,qI (iI 56 (.call 22 [(.t 55)])) 13,qI (iI 57 (.bsl 1 2 [(.slice none 0 0)] [(0,(.t 52)),(1,(.t 56))])) 14,qI (iI 58 (.call 148 [(.t 57)])) 15,qI (iI 65 (.call 147 [(.t 58),(.t 64)])) 22,pI (iI 66 (.call 146 [(.t 46),(.t 47),(.t 51),(.t 65)])) 23,dI (vI 42 66) 24,dI (iI 67 (.ext (.t 42) 0)) 25,dI (iI 68 (.ext (.t 42) 1)) 26,dI (vI 14 67) 27,dI (vI 15 68) 28])
 (.seq (.seq (.dops [dI (vI 69 15) 0,dI (iI 70 (.not (.t 69))) 1,dI (vI 71 70) 2,dI (uI 72 0 71 false) 3,dI (jI 73 (.nilck (.t 72)) 71 false) 4,dI (jI 74 (.fadd 0 (.t 73)) 71 false) 5,dI (jI 75 (.loadN 3 (.t 74)) 71 false) 6,dI (uI 76 3 71 false) 7,dI (uI 77 10 71 false) 8,dI (jI 78 (.nilck (.t 77)) 71 false) 9,dI (jI 79 (.fadd 0 (.t 78)) 71 false) 10,dI (jI 80 (.load1 (.t 79)) 71 false) 11,dI (uI 81 14 71 false) 12,dI (uI 82 10 71 false) 13,dI (jI 83 (.nilck (.t 82)) 71 false) 14,dI (jI 84 (.fadd 1 (.t 83)) 71 false) 15,dI (jI 85 (.load1 (.t 84)) 71 false) 16,dI (uI 86 11 71 false) 17,pI (jI 87 (.call 149 [(.t 75),(.t 76),(.t 80),(.t 81),(.t 85),(.t 86)]) 71 false) 18,dI (jI 88 (.not (.t 87)) 71 false) 19,dI (iI 89 (.pick (.t 71) (.c (.bool true)) (.t 88))) 20])
 (.cond (.t 89) .ret .skip))
 (.seq (.ops [vI 91 10,iI 92 (.nilck (.t 91)),iI 93 (.loadN 7 (.t 92)),iI 94 (.call 81 [(.t 93)]),vI 95 11,iI 96 (.call 150 [(.t 94),(.t 95)]),vI 90 96,iI 97 (.ext (.t 90) 0),iI 98 (.ext (.t 90) 1),iI 16 (.alloc [(.int .i64 0),(.int .i64 0),(.int .i64 0),(.int .i64 0)]),sI (.store 4 (.t 16) (.t 97)),vI 17 98])
 (.seq (.ops [vI 99 17,iI 100 (.eqN .iface false (.t 99) (.c .nilIface))])
 (.cond (.t 100) (.seq (.dops [dI (vI 101 10) 0,dI (vI 102 10) 1,dI (iI 103 (.nilck (.t 102))) 2,dI (iI 104 (.loadN 7 (.t 103))) 3,dI (iI 105 (.loadN 4 (.t 16))) 4,pI (iI 106 (.call 82 [(.t 104),(.t 105)])) 5,dI (iI 107 (.nilck (.t 101))) 6,pI (sI (.store 7 (.t 107) (.t 106))) 7])
 (.ops [vI 108 10,vI 109 14,iI 110 (.nilck (.t 108)),iI 111 (.fadd 0 (.t 110)),sI (.store 1 (.t 111) (.t 109))])) .skip)))))))))
def r125:List RV:=[]
theorem fn125:cFn Tryz.prog 125=some (c125,r125,112):=by kernel_rfl
def c126:MC:=
 (.seq (.ops [iI 4 (.mv (.c (.bool false)))])
 (.seq (.ops [vI 5 0,iI 6 (.call 151 [(.t 5)]),vI 7 6,uI 8 1 7 true,jI 9 (.bin .geq (.t 8) (.c (.int .i64 0))) 7 true,iI 10 (.pick (.t 7) (.t 9) (.c (.bool false))),vI 11 10,uI 12 1 11 true,uI 13 0 11 true,jI 14 (.bin .mul (.c (.int .i64 8)) (.t 13)) 11 true,jI 15 (.bin .shr (.t 12) (.t 14)) 11 true,jI 16 (.bin .eql (.t 15) (.c (.int .i64 0))) 11 true,iI 17 (.pick (.t 11) (.t 16) (.c (.bool false))),vI 4 17])
 .ret))
def r126:List RV:=[.t 4]
theorem fn126:cFn Tryz.prog 126=some (c126,r126,18):=by kernel_rfl
def c127:MC:=
 (.seq (.ops [iI 2 (.mv (.c (.int .i64 0)))])
 (.seq (.seq (.ops [vI 6 0,iI 7 (.len false (.t 6)),iI 8 (.bin .gtr (.t 7) (.c (.int .i64 40)))])
 (.cond (.t 8) (.seq (.ops [iI 2 (.mv (.c (.int .i64 (-1))))])
 .ret) .skip))
 (.seq (.ops [iI 3 (.mv (.c (.int .i64 0)))])
 (.seq (.seq (.ops [vI 9 0,iI 10 (.len false (.t 9)),iI 11 (.mv (.c (.int .i64 0)))])
 (.block 0 (.loop (.seq (.ops [iI 12 (.bin .lss (.t 11) (.t 10))])
 (.seq (.cond (.t 12) .skip (.exit 0))
 (.seq (.block 1 (.seq (.ops [iI 13 (.iaS 1 (.t 9) (.t 11)),iI 14 (.load1 (.t 13)),vI 5 14])
 (.seq (.seq (.ops [vI 15 5,iI 16 (.call 151 [(.t 15)]),iI 17 (.not (.t 16))])
 (.cond (.t 17) (.seq (.ops [iI 2 (.mv (.c (.int .i64 (-1))))])
 .ret) .skip))
 (.ops [vI 18 3,vI 19 5,iI 20 (.bin .add (.t 18) (.t 19)),vI 3 20]))))
 (.ops [iI 21 (.bin .add (.t 11) (.c (.int .i64 1))),vI 11 21])))))))
 (.seq (.ops [vI 22 3,vI 2 22])
 .ret)))))
def r127:List RV:=[.t 2]
theorem fn127:cFn Tryz.prog 127=some (c127,r127,23):=by kernel_rfl
def c132:MC:=
 (.seq (.ops [iI 2 (.box (.t 0)),iI 3 (.box (.t 1)),iI 4 (.mv (.c (.bool false)))])
 (.seq (.seq (.ops [iI 5 (.fadd 0 (.t 2)),iI 6 (.load1 (.t 5)),iI 7 (.fadd 0 (.t 3)),iI 8 (.load1 (.t 7)),iI 9 (.bin .neq (.t 6) (.t 8))])
 (.cond (.t 9) (.seq (.ops [iI 10 (.fadd 0 (.t 2)),iI 11 (.load1 (.t 10)),iI 12 (.fadd 0 (.t 3)),iI 13 (.load1 (.t 12)),iI 14 (.bin .lss (.t 11) (.t 13)),vI 4 14])
 .ret) .skip))
 (.seq (.ops [iI 15 (.fadd 1 (.t 2)),iI 16 (.load1 (.t 15)),iI 17 (.fadd 1 (.t 3)),iI 18 (.load1 (.t 17)),iI 19 (.bin .lss (.t 16) (.t 18)),vI 4 19])
 .ret)))
def r132:List RV:=[.t 4]
theorem fn132:cFn Tryz.prog 132=some (c132,r132,20):=by kernel_rfl
def c133:MC:=
 (.seq (.ops [iI 4 (.mv (.c (.bool false)))])
 (.seq (.ops [vI 5 0,vI 6 1,iI 7 (.nilck (.t 5)),iI 8 (.iaA 256 1 (.t 7) (.t 6)),iI 9 (.load1 (.t 8)),vI 4 9])
 .ret))
def r133:List RV:=[.t 4]
theorem fn133:cFn Tryz.prog 133=some (c133,r133,10):=by kernel_rfl
def c141:MC:=
 (.seq (.ops [iI 4 (.mv (.c (.bool false)))])
 (.seq (.ops [vI 5 0,vI 6 1,iI 7 (.bin .geq (.t 5) (.t 6)),vI 8 7,uI 9 0 8 true,jI 10 (.bin .leq (.t 9) (.c (.int .i64 1099511627776))) 8 true,iI 11 (.pick (.t 8) (.t 10) (.c (.bool false))),vI 4 11])
 .ret))
def r141:List RV:=[.t 4]
theorem fn141:cFn Tryz.prog 141=some (c141,r141,12):=by kernel_rfl
def c142:MC:=
 (.seq (.ops [iI 4 (.mv (.c (.int .i64 0)))])
 (.seq (.seq (.ops [vI 6 0,iI 7 (.len false (.t 6)),iI 8 (.mv (.c (.int .i64 0)))])
 (.block 0 (.loop (.seq (.ops [iI 9 (.bin .lss (.t 8) (.t 7))])
 (.seq (.cond (.t 9) .skip (.exit 0))
 (.seq (.block 1 (.seq (.ops [vI 10 8,vI 5 10])
 (.seq (.ops [vI 11 1,vI 12 0,vI 13 5,iI 14 (.iaS 1 (.t 12) (.t 13)),iI 15 (.load1 (.t 14)),iI 16 (.callv (.t 11) [(.t 15)])])
 (.cond (.t 16) (.seq (.ops [vI 17 5,vI 4 17])
 .ret) .skip))))
 (.ops [iI 18 (.bin .add (.t 8) (.c (.int .i64 1))),vI 8 18])))))))
 (.seq (.ops [iI 4 (.mv (.c (.int .i64 (-1))))])
 .ret)))
def r142:List RV:=[.t 4]
theorem fn142:cFn Tryz.prog 142=some (c142,r142,19):=by kernel_rfl
def c143:MC:=
 (.seq (.ops [iI 4 (.box (.t 0)),iI 8 (.mv (.c (.slice none 0 0))),iI 9 (.mv (.c (.int .i64 0))),iI 10 (.mv (.c .nilIface))])
 (.seq (.seq (.ops [iI 13 (.loadN 3 (.t 4)),vI 14 1,iI 15 (.call 42 [(.t 13),(.t 14)]),iI 16 (.not (.t 15)),vI 17 16,jI 18 (.loadN 3 (.t 4)) 17 false,uI 19 2 17 false,jI 20 (.call 42 [(.t 18),(.t 19)]) 17 false,jI 21 (.not (.t 20)) 17 false,iI 22 (.pick (.t 17) (.c (.bool true)) (.t 21))])
 (.cond (.t 22) (.seq (.ops [iI 23 (.mki 78 (.c (.int .i64 1))),iI 24 (.call 33 [(.c (.string ⟨#[112,108,97,110]⟩)),(.t 23)]),iI 8 (.mv (.c (.slice none 0 0))),iI 9 (.mv (.c (.int .i64 0))),vI 10 24])
 .ret) .skip))
 (.seq (.ops [iI 26 (.loadN 3 (.t 4)),vI 27 2,iI 28 (.bsl 1 1 [(.int .i64 0)] [(0,(.t 27))]),vI 29 3,iI 30 (.call 41 [(.t 26),(.t 28),(.t 29)]),vI 25 30,iI 31 (.ext (.t 25) 0),iI 32 (.ext (.t 25) 1),vI 11 31,vI 12 32])
 (.seq (.seq (.ops [vI 33 12,iI 34 (.eqN .iface true (.t 33) (.c .nilIface))])
 (.cond (.t 34) (.seq (.ops [vI 35 12,iI 8 (.mv (.c (.slice none 0 0))),iI 9 (.mv (.c (.int .i64 0))),vI 10 35])
 .ret) .skip))
 (.seq (.dops [dI (iI 36 (.loadN 3 (.t 4))) 0,dI (vI 37 11) 1,dI (vI 38 1) 2,dI (vI 40 11) 4,dI (vI 41 1) 5,dI (iI 42 (.iaS 1 (.t 40) (.t 41))) 6,dI (iI 43 (.load1 (.t 42))) 7,qI (iI 39 (.call 155 [(.t 36),(.t 37),(.t 38)])) 3,dI (vI 8 39) 8,dI (vI 9 43) 9,dI (iI 10 (.mv (.c .nilIface))) 10])
 .ret)))))
def r143:List RV:=[.t 8,.t 9,.t 10]
theorem fn143:cFn Tryz.prog 143=some (c143,r143,44):=by kernel_rfl
def c144:MC:=
 (.seq (.ops [iI 2 (.mv (.c (.slice none 0 0)))])
 (.seq (.ops [vI 10 0,iI 11 (.call 157 [(.t 10)]),iI 12 (.call 156 [(.t 11),(.f 158)]),vI 3 12])
 (.seq (.ops [iI 4 (.mv (.c (.slice none 0 0)))])
 (.seq (.seq (.ops [vI 13 3,iI 14 (.len false (.t 13)),iI 15 (.mv (.c (.int .i64 0)))])
 (.block 0 (.loop (.seq (.ops [iI 16 (.bin .lss (.t 15) (.t 14))])
 (.seq (.cond (.t 16) .skip (.exit 0))
 (.seq (.block 1 (.seq (.ops [iI 17 (.iaS 3 (.t 13) (.t 15)),iI 18 (.loadN 3 (.t 17)),iI 6 (.alloc [(.int .i64 0),(.int .i64 0),(.int .i64 0)]),sI (.store 3 (.t 6) (.t 18))])
 (.ops [vI 19 4,iI 20 (.fadd 1 (.t 6)),iI 21 (.load1 (.t 20)),iI 22 (.fadd 0 (.t 6)),iI 23 (.load1 (.t 22)),iI 24 (.bld [(.int .i64 0),(.int .i64 0)] [(0,1,(.t 21)),(1,1,(.t 23))]),iI 25 (.bsl 2 1 [(.int .i64 0),(.int .i64 0)] [(0,(.t 24))]),iI 26 (.app 2 16 (.t 19) (.t 25)),vI 4 26])))
 (.ops [iI 27 (.bin .add (.t 15) (.c (.int .i64 1))),vI 15 27])))))))
 (.seq (.ops [iI 7 (.mv (.c (.slice none 0 0)))])
 (.seq (.seq (.ops [vI 28 4,iI 29 (.call 160 [(.t 28)]),iI 30 (.len false (.t 29)),iI 31 (.mv (.c (.int .i64 0)))])
 (.block 2 (.loop (.seq (.ops [iI 32 (.bin .lss (.t 31) (.t 30))])
 (.seq (.cond (.t 32) .skip (.exit 2))
 (.seq (.block 3 (.seq (.ops [iI 33 (.iaS 2 (.t 29) (.t 31)),iI 34 (.loadN 2 (.t 33)),iI 9 (.alloc [(.int .i64 0),(.int .i64 0)]),sI (.store 2 (.t 9) (.t 34))])
 (.ops [vI 35 7,iI 36 (.fadd 1 (.t 9)),iI 37 (.load1 (.t 36)),iI 38 (.bsl 1 1 [(.int .i64 0)] [(0,(.t 37))]),iI 39 (.app 1 8 (.t 35) (.t 38)),vI 7 39])))
 (.ops [iI 40 (.bin .add (.t 31) (.c (.int .i64 1))),vI 31 40])))))))
 (.seq (.ops [vI 41 7,vI 2 41])
 .ret)))))))
def r144:List RV:=[.t 2]
theorem fn144:cFn Tryz.prog 144=some (c144,r144,42):=by kernel_rfl
def c145:MC:=
 (.seq (.ops [iI 2 (.box (.t 0)),iI 4 (.alloc [(.int .i64 0),(.int .i64 0),(.int .i64 0),(.int .i64 0)]),iI 5 (.mv (.c .nilIface))])
 (.seq (.seq (.ops [iI 6 (.loadN 4 (.t 2)),iI 7 (.call 114 [(.t 6)]),iI 8 (.not (.t 7)),vI 9 8,uI 10 1 9 false,jI 11 (.bin .lss (.t 10) (.c (.int .i64 0))) 9 false,iI 12 (.pick (.t 9) (.c (.bool true)) (.t 11))])
 (.cond (.t 12) (.seq (.ops [iI 13 (.bld [(.int .i64 0),(.int .i64 0),(.int .i64 0),(.int .i64 0)] []),iI 14 (.mki 78 (.c (.int .i64 1))),iI 15 (.call 33 [(.c (.string ⟨#[103,97,105,110]⟩)),(.t 14)]),sI (.store 4 (.t 4) (.t 13)),vI 5 15])
 .ret) .skip))
 (.seq (.ops [vI 16 1,iI 17 (.fadd 0 (.t 2)),iI 18 (.load1 (.t 17)),iI 19 (.bin .sub (.c (.int .i64 200)) (.t 18)),iI 20 (.min2 (.t 16) (.t 19)),vI 1 20])
 (.seq (.ops [iI 21 (.fadd 0 (.t 2)),iI 22 (.load1 (.t 21)),vI 23 1,iI 24 (.bin .add (.t 22) (.t 23)),iI 25 (.fadd 0 (.t 2)),sI (.store 1 (.t 25) (.t 24))])
 (.seq (.ops [iI 26 (.fadd 2 (.t 2)),iI 27 (.load1 (.t 26)),vI 28 1,iI 29 (.bin .add (.t 27) (.t 28)),iI 30 (.fadd 2 (.t 2)),sI (.store 1 (.t 30) (.t 29))])
 (.seq (.ops [iI 31 (.loadN 4 (.t 2)),iI 32 (.call 116 [(.t 31)]),iI 33 (.ext (.t 32) 0),iI 34 (.ext (.t 32) 1),sI (.store 4 (.t 4) (.t 33)),vI 5 34])
 .ret))))))
def r145:List RV:=[.cell 4 4 true,.t 5]
theorem fn145:cFn Tryz.prog 145=some (c145,r145,35):=by kernel_rfl
def c146:MC:=
 (.seq (.ops [iI 4 (.box (.t 0)),iI 7 (.box (.t 3)),iI 8 (.mv (.c (.int .i64 0))),iI 9 (.mv (.c (.bool false)))])
 (.seq (.ops [iI 12 (.loadN 3 (.t 4)),vI 13 1,vI 14 2,iI 15 (.call 161 [(.t 12),(.t 13),(.t 14)]),vI 10 15])
 (.seq (.ops [vI 16 10,iI 17 (.mkf (.func 162) [] [(.t 7)]),iI 18 (.call 142 [(.t 16),(.t 17)]),vI 11 18])
 (.seq (.seq (.ops [vI 19 11,iI 20 (.bin .lss (.t 19) (.c (.int .i64 0)))])
 (.cond (.t 20) (.seq (.ops [iI 8 (.mv (.c (.int .i64 0))),iI 9 (.mv (.c (.bool false)))])
 .ret) .skip))
 (.seq (.ops [vI 21 10,vI 22 11,iI 23 (.iaS 1 (.t 21) (.t 22)),iI 24 (.load1 (.t 23)),vI 8 24,iI 9 (.mv (.c (.bool true)))])
 .ret)))))
def r146:List RV:=[.t 8,.t 9]
theorem fn146:cFn Tryz.prog 146=some (c146,r146,25):=by kernel_rfl
def c147:MC:=
 (.seq (.ops [iI 4 (.mv (.c (.slice none 0 0)))])
 (.seq (.ops [vI 8 1,iI 9 (.min2 (.t 8) (.c (.int .i64 64))),iI 10 (.max2 (.t 9) (.c (.int .i64 0))),iI 11 (.mks 1 1 [(.bool false)] (.t 10) (.t 10)),vI 5 11])
 (.seq (.seq (.ops [vI 12 0,iI 13 (.len false (.t 12)),iI 14 (.mv (.c (.int .i64 0)))])
 (.block 0 (.loop (.seq (.ops [iI 15 (.bin .lss (.t 14) (.t 13))])
 (.seq (.cond (.t 15) .skip (.exit 0))
 (.seq (.block 1 (.seq (.ops [iI 16 (.iaS 1 (.t 12) (.t 14)),iI 17 (.load1 (.t 16)),vI 7 17])
 (.seq (.ops [vI 18 7,iI 19 (.bin .geq (.t 18) (.c (.int .i64 0))),vI 20 19,uI 21 7 20 true,uI 22 5 20 true,jI 23 (.len false (.t 22)) 20 true,jI 24 (.bin .lss (.t 21) (.t 23)) 20 true,iI 25 (.pick (.t 20) (.t 24) (.c (.bool false)))])
 (.cond (.t 25) (.ops [vI 26 5,vI 27 7,iI 28 (.iaS 1 (.t 26) (.t 27)),sI (.store 1 (.t 28) (.c (.bool true)))]) .skip))))
 (.ops [iI 29 (.bin .add (.t 14) (.c (.int .i64 1))),vI 14 29])))))))
 (.seq (.ops [vI 30 5,vI 4 30])
 .ret))))
def r147:List RV:=[.t 4]
theorem fn147:cFn Tryz.prog 147=some (c147,r147,31):=by kernel_rfl
def c148:MC:=
 (.seq (.ops [iI 2 (.mv (.c (.slice none 0 0)))])
 (.seq (.ops [iI 3 (.mv (.c (.int .i64 0)))])
 (.seq (.seq (.ops [vI 9 0,iI 10 (.len false (.t 9)),iI 11 (.mv (.c (.int .i64 0)))])
 (.block 0 (.loop (.seq (.ops [iI 12 (.bin .lss (.t 11) (.t 10))])
 (.seq (.cond (.t 12) .skip (.exit 0))
 (.seq (.block 1 (.seq (.ops [iI 13 (.iaS 1 (.t 9) (.t 11)),iI 14 (.load1 (.t 13)),vI 5 14])
 (.seq (.ops [vI 15 3,vI 16 5,iI 17 (.len false (.t 16)),iI 18 (.bin .add (.t 15) (.t 17)),vI 3 18])
 (.seq (.ops [vI 19 3,iI 20 (.bin .lss (.t 19) (.c (.int .i64 0)))])
 (.cond (.t 20) (.ops [iI 21 (.mki 9 (.c (.string ⟨#[108,101,110,32,111,117,116,32,111,102,32,114,97,110,103,101]⟩))),sI .bad]) .skip)))))
 (.ops [iI 22 (.bin .add (.t 11) (.c (.int .i64 1))),vI 11 22])))))))
 (.seq (.ops [vI 23 3,iI 24 (.call 163 [(.c (.slice none 0 0)),(.t 23)]),vI 6 24])
 (.seq (.seq (.ops [vI 25 0,iI 26 (.len false (.t 25)),iI 27 (.mv (.c (.int .i64 0)))])
 (.block 2 (.loop (.seq (.ops [iI 28 (.bin .lss (.t 27) (.t 26))])
 (.seq (.cond (.t 28) .skip (.exit 2))
 (.seq (.block 3 (.seq (.ops [iI 29 (.iaS 1 (.t 25) (.t 27)),iI 30 (.load1 (.t 29)),vI 8 30])
 (.ops [vI 31 6,vI 32 8,iI 33 (.app 1 8 (.t 31) (.t 32)),vI 6 33])))
 (.ops [iI 34 (.bin .add (.t 27) (.c (.int .i64 1))),vI 27 34])))))))
 (.seq (.ops [vI 35 6,vI 2 35])
 .ret))))))
def r148:List RV:=[.t 2]
theorem fn148:cFn Tryz.prog 148=some (c148,r148,36):=by kernel_rfl
def c149:MC:=
 (.seq (.ops [iI 6 (.box (.t 0)),iI 12 (.mv (.c (.bool false)))])
 (.seq (.ops [iI 13 (.loadN 3 (.t 6)),vI 14 2,iI 15 (.call 65 [(.t 13),(.t 14)]),vI 16 3,iI 17 (.call 43 [(.t 15),(.t 16)]),vI 18 17,uI 19 4 18 true,uI 20 5 18 true,jI 21 (.bin .geq (.t 19) (.t 20)) 18 true,iI 22 (.pick (.t 18) (.t 21) (.c (.bool false))),vI 23 22,jI 24 (.loadN 3 (.t 6)) 23 true,uI 25 1 23 true,uI 26 3 23 true,uI 27 4 23 true,uI 28 5 23 true,jI 29 (.bin .sub (.t 27) (.t 28)) 23 true,uI 30 5 23 true,jI 31 (.call 119 [(.t 24),(.t 25),(.t 26),(.t 29),(.t 30)]) 23 true,iI 32 (.pick (.t 23) (.t 31) (.c (.bool false))),vI 12 32])
 .ret))
def r149:List RV:=[.t 12]
theorem fn149:cFn Tryz.prog 149=some (c149,r149,33):=by kernel_rfl
def c150:MC:=
 (.seq (.ops [iI 2 (.box (.t 0)),iI 4 (.alloc [(.int .i64 0),(.int .i64 0),(.int .i64 0),(.int .i64 0)]),iI 5 (.mv (.c .nilIface))])
 (.seq (.block 0 (.seq (.ops [iI 7 (.loadN 4 (.t 2)),iI 8 (.call 114 [(.t 7)]),iI 9 (.not (.t 8)),vI 10 9,uI 11 1 10 false,jI 12 (.bin .lss (.t 11) (.c (.int .i64 0))) 10 false,iI 13 (.pick (.t 10) (.c (.bool true)) (.t 12)),vI 6 13])
 (.cond (.t 6) (.seq (.ops [iI 14 (.bld [(.int .i64 0),(.int .i64 0),(.int .i64 0),(.int .i64 0)] []),iI 15 (.mki 78 (.c (.int .i64 1))),iI 16 (.call 33 [(.c (.string ⟨#[115,112,101,110,100]⟩)),(.t 15)]),sI (.store 4 (.t 4) (.t 14)),vI 5 16])
 .ret) (.seq (.ops [vI 18 1,iI 19 (.fadd 0 (.t 2)),iI 20 (.load1 (.t 19)),iI 21 (.bin .gtr (.t 18) (.t 20)),vI 17 21])
 (.cond (.t 17) (.seq (.ops [iI 22 (.bld [(.int .i64 0),(.int .i64 0),(.int .i64 0),(.int .i64 0)] []),iI 23 (.mki 78 (.c (.int .i64 11))),iI 24 (.call 33 [(.c (.string ⟨#[115,112,101,110,100]⟩)),(.t 23)]),sI (.store 4 (.t 4) (.t 22)),vI 5 24])
 .ret) .skip)))))
 (.seq (.ops [iI 25 (.fadd 0 (.t 2)),iI 26 (.load1 (.t 25)),vI 27 1,iI 28 (.bin .sub (.t 26) (.t 27)),iI 29 (.fadd 0 (.t 2)),sI (.store 1 (.t 29) (.t 28))])
 (.seq (.ops [iI 30 (.fadd 1 (.t 2)),iI 31 (.load1 (.t 30)),vI 32 1,iI 33 (.bin .add (.t 31) (.t 32)),iI 34 (.fadd 1 (.t 2)),sI (.store 1 (.t 34) (.t 33))])
 (.seq (.ops [iI 35 (.loadN 4 (.t 2)),iI 36 (.call 116 [(.t 35)]),iI 37 (.ext (.t 36) 0),iI 38 (.ext (.t 36) 1),sI (.store 4 (.t 4) (.t 37)),vI 5 38])
 .ret)))))
def r150:List RV:=[.cell 4 4 true,.t 5]
theorem fn150:cFn Tryz.prog 150=some (c150,r150,39):=by kernel_rfl
def c151:MC:=
 (.seq (.ops [iI 2 (.mv (.c (.bool false)))])
 (.seq (.ops [vI 3 0,iI 4 (.bin .geq (.t 3) (.c (.int .i64 1))),vI 5 4,uI 6 0 5 true,jI 7 (.bin .leq (.t 6) (.c (.int .i64 4))) 5 true,iI 8 (.pick (.t 5) (.t 7) (.c (.bool false))),vI 2 8])
 .ret))
def r151:List RV:=[.t 2]
theorem fn151:cFn Tryz.prog 151=some (c151,r151,9):=by kernel_rfl
def c155:MC:=
 (.seq (.ops [iI 3 (.box (.t 0)),iI 6 (.mv (.c (.slice none 0 0)))])
 (.seq (.ops [iI 7 (.mv (.c (.slice none 0 0)))])
 (.seq (.seq (.ops [iI 9 (.loadN 3 (.t 3)),vI 10 1,vI 11 2,iI 12 (.call 161 [(.t 9),(.t 10),(.t 11)]),vI 8 12])
 (.block 0 (.loop (.seq (.seq (.ops [vI 13 8,iI 14 (.len false (.t 13)),iI 15 (.bin .gtr (.t 14) (.c (.int .i64 0))),vI 16 15,uI 17 7 16 true,jI 18 (.len false (.t 17)) 16 true,jI 19 (.bin .lss (.t 18) (.c (.int .i64 64))) 16 true,iI 20 (.pick (.t 16) (.t 19) (.c (.bool false)))])
 (.cond (.t 20) .skip (.exit 0)))
 (.seq (.block 1 (.seq (.ops [vI 25 8,iI 26 (.iaS 1 (.t 25) (.c (.int .i64 0))),iI 27 (.load1 (.t 26)),vI 2 27])
 (.ops [vI 28 7,vI 29 2,iI 30 (.bsl 1 1 [(.int .i64 0)] [(0,(.t 29))]),iI 31 (.app 1 8 (.t 28) (.t 30)),vI 7 31])))
 (.ops [iI 21 (.loadN 3 (.t 3)),vI 22 1,vI 23 2,iI 24 (.call 161 [(.t 21),(.t 22),(.t 23)]),vI 8 24]))))))
 (.seq (.ops [vI 32 7,vI 6 32])
 .ret))))
def r155:List RV:=[.t 6]
theorem fn155:cFn Tryz.prog 155=some (c155,r155,33):=by kernel_rfl
def c156:MC:=
 (.seq (.ops [iI 4 (.mv (.c (.slice none 0 0)))])
 (.seq (.ops [vI 8 0,vI 9 1,iI 10 (.call 165 [(.t 8),(.t 9)]),vI 5 10])
 (.seq (.seq (.ops [vI 11 5,iI 12 (.bin .eql (.t 11) (.c (.int .i64 (-1))))])
 (.cond (.t 12) (.seq (.ops [vI 13 0,vI 4 13])
 .ret) .skip))
 (.seq (.seq (.ops [vI 14 5,iI 15 (.bin .add (.t 14) (.c (.int .i64 1))),vI 6 15])
 (.block 0 (.loop (.seq (.seq (.ops [vI 16 6,vI 17 0,iI 18 (.len false (.t 17)),iI 19 (.bin .lss (.t 16) (.t 18))])
 (.cond (.t 19) .skip (.exit 0)))
 (.seq (.block 1 (.seq (.ops [vI 22 0,vI 23 6,iI 24 (.iaS 3 (.t 22) (.t 23)),iI 25 (.loadN 3 (.t 24)),iI 7 (.alloc [(.int .i64 0),(.int .i64 0),(.int .i64 0)]),sI (.store 3 (.t 7) (.t 25))])
 (.seq (.ops [vI 26 1,iI 27 (.loadN 3 (.t 7)),iI 28 (.callv (.t 26) [(.t 27)]),iI 29 (.not (.t 28))])
 (.cond (.t 29) (.seq (.ops [vI 30 0,vI 31 5,iI 32 (.loadN 3 (.t 7)),iI 33 (.iaS 3 (.t 30) (.t 31)),sI (.store 3 (.t 33) (.t 32))])
 (.ops [vI 34 5,iI 35 (.bin .add (.t 34) (.c (.int .i64 1))),vI 5 35])) .skip))))
 (.ops [vI 20 6,iI 21 (.bin .add (.t 20) (.c (.int .i64 1))),vI 6 21]))))))
 (.seq (.ops [vI 36 0,vI 37 5,iI 38 (.slc 3 (.t 36) (some (.t 37)) none none),sI (.clr [(.int .i64 0),(.int .i64 0),(.int .i64 0)] (.t 38))])
 (.seq (.ops [vI 39 0,vI 40 5,iI 41 (.slc 3 (.t 39) none (some (.t 40)) none),vI 4 41])
 .ret))))))
def r156:List RV:=[.t 4]
theorem fn156:cFn Tryz.prog 156=some (c156,r156,42):=by kernel_rfl
def c157:MC:=
 (.seq (.ops [iI 2 (.mv (.c (.slice none 0 0)))])
 (.seq (.seq (.ops [vI 3 0,iI 4 (.eqN .slice false (.t 3) (.c (.slice none 0 0)))])
 (.cond (.t 4) (.seq (.ops [iI 2 (.mv (.c (.slice none 0 0)))])
 .ret) .skip))
 (.seq (.ops [iI 5 (.bsl 3 0 [(.int .i64 0),(.int .i64 0),(.int .i64 0)] []),vI 6 0,iI 7 (.app 3 24 (.t 5) (.t 6)),vI 2 7])
 .ret)))
def r157:List RV:=[.t 2]
theorem fn157:cFn Tryz.prog 157=some (c157,r157,8):=by kernel_rfl
def c158:MC:=
 (.seq (.ops [iI 1 (.box (.t 0)),iI 2 (.mv (.c (.bool false)))])
 (.seq (.ops [iI 3 (.loadN 3 (.t 1)),iI 4 (.call 159 [(.t 3)]),iI 5 (.not (.t 4)),vI 2 5])
 .ret))
def r158:List RV:=[.t 2]
theorem fn158:cFn Tryz.prog 158=some (c158,r158,6):=by kernel_rfl
def c159:MC:=
 (.seq (.ops [iI 1 (.box (.t 0)),iI 2 (.mv (.c (.bool false)))])
 (.seq (.ops [iI 3 (.fadd 1 (.t 1)),iI 4 (.load1 (.t 3)),iI 5 (.bin .geq (.t 4) (.c (.int .i64 0))),vI 6 5,jI 7 (.fadd 1 (.t 1)) 6 true,jI 8 (.load1 (.t 7)) 6 true,jI 9 (.fadd 2 (.t 1)) 6 true,jI 10 (.load1 (.t 9)) 6 true,jI 11 (.bin .leq (.t 8) (.t 10)) 6 true,iI 12 (.pick (.t 6) (.t 11) (.c (.bool false))),vI 2 12])
 .ret))
def r159:List RV:=[.t 2]
theorem fn159:cFn Tryz.prog 159=some (c159,r159,13):=by kernel_rfl
def c160:MC:=
 (.seq (.ops [iI 2 (.mv (.c (.slice none 0 0)))])
 (.seq (.ops [iI 10 (.call 62 []),vI 3 10])
 (.seq (.ops [vI 11 3,iI 12 (.mkf (.func 63) [(.t 11)] []),vI 4 12])
 (.seq (.seq (.ops [vI 13 0,iI 14 (.len false (.t 13)),iI 15 (.mv (.c (.int .i64 0)))])
 (.block 0 (.loop (.seq (.ops [iI 16 (.bin .lss (.t 15) (.t 14))])
 (.seq (.cond (.t 16) .skip (.exit 0))
 (.seq (.block 1 (.seq (.ops [iI 17 (.iaS 2 (.t 13) (.t 15)),iI 18 (.loadN 2 (.t 17)),iI 6 (.alloc [(.int .i64 0),(.int .i64 0)]),sI (.store 2 (.t 6) (.t 18))])
 (.ops [vI 19 4,iI 20 (.loadN 2 (.t 6)),iI 21 (.callv (.t 19) [(.t 20)])])))
 (.ops [iI 22 (.bin .add (.t 15) (.c (.int .i64 1))),vI 15 22])))))))
 (.seq (.ops [iI 7 (.mv (.c (.slice none 0 0)))])
 (.seq (.seq (.ops [vI 24 3,iI 25 (.call 64 [(.t 24)]),vI 23 25,iI 26 (.ext (.t 23) 0),iI 27 (.ext (.t 23) 1),iI 8 (.alloc [(.int .i64 0),(.int .i64 0)]),sI (.store 2 (.t 8) (.t 26)),vI 9 27])
 (.block 2 (.loop (.seq (.seq (.ops [vI 28 9])
 (.cond (.t 28) .skip (.exit 2)))
 (.seq (.block 3 (.ops [vI 34 7,iI 35 (.loadN 2 (.t 8)),iI 36 (.bsl 2 1 [(.int .i64 0),(.int .i64 0)] [(0,(.t 35))]),iI 37 (.app 2 16 (.t 34) (.t 36)),vI 7 37]))
 (.seq (.seq (.ops [iI 38 (.loadN 2 (.t 8))])
 (.ops [iI 8 (.alloc [(.int .i64 0),(.int .i64 0)]),sI (.store 2 (.t 8) (.t 38))]))
 (.ops [vI 30 3,iI 31 (.call 64 [(.t 30)]),vI 29 31,iI 32 (.ext (.t 29) 0),iI 33 (.ext (.t 29) 1),sI (.store 2 (.t 8) (.t 32)),vI 9 33])))))))
 (.seq (.ops [vI 39 7,vI 2 39])
 .ret)))))))
def r160:List RV:=[.t 2]
theorem fn160:cFn Tryz.prog 160=some (c160,r160,40):=by kernel_rfl
def c161:MC:=
 (.seq (.ops [iI 3 (.box (.t 0)),iI 6 (.mv (.c (.slice none 0 0)))])
 (.seq (.seq (.ops [vI 13 1,iI 14 (.len false (.t 13)),iI 15 (.fadd 2 (.t 3)),iI 16 (.load1 (.t 15)),iI 17 (.len true (.t 16)),iI 18 (.bin .neq (.t 14) (.t 17)),vI 19 18,jI 20 (.loadN 3 (.t 3)) 19 false,uI 21 2 19 false,jI 22 (.call 42 [(.t 20),(.t 21)]) 19 false,jI 23 (.not (.t 22)) 19 false,iI 24 (.pick (.t 19) (.c (.bool true)) (.t 23)),vI 25 24,uI 26 1 25 false,uI 27 2 25 false,jI 28 (.iaS 1 (.t 26) (.t 27)) 25 false,jI 29 (.load1 (.t 28)) 25 false,jI 30 (.bin .lss (.t 29) (.c (.int .i64 0))) 25 false,iI 31 (.pick (.t 25) (.c (.bool true)) (.t 30))])
 (.cond (.t 31) (.seq (.ops [iI 6 (.mv (.c (.slice none 0 0)))])
 .ret) .skip))
 (.seq (.ops [iI 7 (.mv (.c (.slice none 0 0)))])
 (.seq (.seq (.ops [iI 32 (.loadN 3 (.t 3)),vI 33 2,iI 34 (.call 65 [(.t 32),(.t 33)]),iI 35 (.len false (.t 34)),iI 36 (.mv (.c (.int .i64 0)))])
 (.block 0 (.loop (.seq (.ops [iI 37 (.bin .lss (.t 36) (.t 35))])
 (.seq (.cond (.t 37) .skip (.exit 0))
 (.seq (.block 1 (.seq (.ops [iI 38 (.iaS 1 (.t 34) (.t 36)),iI 39 (.load1 (.t 38)),vI 9 39])
 (.seq (.dops [dI (vI 40 1) 0,dI (vI 41 9) 1,dI (iI 42 (.iaS 1 (.t 40) (.t 41))) 2,dI (iI 43 (.load1 (.t 42))) 3,dI (iI 44 (.bin .geq (.t 43) (.c (.int .i64 0)))) 4,dI (vI 45 44) 5,dI (uI 46 1 45 true) 6,dI (uI 47 9 45 true) 7,dI (jI 48 (.iaS 1 (.t 46) (.t 47)) 45 true) 8,dI (jI 49 (.load1 (.t 48)) 45 true) 9,dI (uI 50 1 45 true) 10,dI (uI 51 2 45 true) 11,dI (jI 52 (.iaS 1 (.t 50) (.t 51)) 45 true) 12,dI (jI 53 (.load1 (.t 52)) 45 true) 13,dI (jI 54 (.bin .lss (.t 49) (.t 53)) 45 true) 14,dI (iI 55 (.pick (.t 45) (.t 54) (.c (.bool false)))) 15])
 (.cond (.t 55) (.ops [vI 56 7,vI 57 1,vI 58 9,iI 59 (.iaS 1 (.t 57) (.t 58)),iI 60 (.load1 (.t 59)),vI 61 9,iI 62 (.bld [(.int .i64 0),(.int .i64 0)] [(0,1,(.t 60)),(1,1,(.t 61))]),iI 63 (.bsl 2 1 [(.int .i64 0),(.int .i64 0)] [(0,(.t 62))]),iI 64 (.app 2 16 (.t 56) (.t 63)),vI 7 64]) .skip))))
 (.ops [iI 65 (.bin .add (.t 36) (.c (.int .i64 1))),vI 36 65])))))))
 (.seq (.ops [iI 10 (.mv (.c (.slice none 0 0)))])
 (.seq (.seq (.ops [vI 66 7,iI 67 (.call 160 [(.t 66)]),iI 68 (.len false (.t 67)),iI 69 (.mv (.c (.int .i64 0)))])
 (.block 2 (.loop (.seq (.ops [iI 70 (.bin .lss (.t 69) (.t 68))])
 (.seq (.cond (.t 70) .skip (.exit 2))
 (.seq (.block 3 (.seq (.ops [iI 71 (.iaS 2 (.t 67) (.t 69)),iI 72 (.loadN 2 (.t 71)),iI 12 (.alloc [(.int .i64 0),(.int .i64 0)]),sI (.store 2 (.t 12) (.t 72))])
 (.ops [vI 73 10,iI 74 (.fadd 1 (.t 12)),iI 75 (.load1 (.t 74)),iI 76 (.bsl 1 1 [(.int .i64 0)] [(0,(.t 75))]),iI 77 (.app 1 8 (.t 73) (.t 76)),vI 10 77])))
 (.ops [iI 78 (.bin .add (.t 69) (.c (.int .i64 1))),vI 69 78])))))))
 (.seq (.ops [vI 79 10,vI 6 79])
 .ret)))))))
def r161:List RV:=[.t 6]
theorem fn161:cFn Tryz.prog 161=some (c161,r161,80):=by kernel_rfl
def c162:MC:=
 (.seq (.ops [iI 3 (.mv (.c (.bool false)))])
 (.seq (.ops [vI 4 0,iI 5 (.load1 (.t 1)),iI 6 (.len false (.t 5)),iI 7 (.bin .geq (.t 4) (.t 6)),vI 8 7,jI 9 (.load1 (.t 1)) 8 false,uI 10 0 8 false,jI 11 (.iaS 1 (.t 9) (.t 10)) 8 false,jI 12 (.load1 (.t 11)) 8 false,jI 13 (.not (.t 12)) 8 false,iI 14 (.pick (.t 8) (.c (.bool true)) (.t 13)),vI 3 14])
 .ret))
def r162:List RV:=[.t 3]
theorem fn162:cFn Tryz.prog 162=some (c162,r162,15):=by kernel_rfl
def c165:MC:=
 (.seq (.ops [iI 4 (.mv (.c (.int .i64 0)))])
 (.seq (.seq (.ops [vI 6 0,iI 7 (.len false (.t 6)),iI 8 (.mv (.c (.int .i64 0)))])
 (.block 0 (.loop (.seq (.ops [iI 9 (.bin .lss (.t 8) (.t 7))])
 (.seq (.cond (.t 9) .skip (.exit 0))
 (.seq (.block 1 (.seq (.ops [vI 10 8,vI 5 10])
 (.seq (.ops [vI 11 1,vI 12 0,vI 13 5,iI 14 (.iaS 3 (.t 12) (.t 13)),iI 15 (.loadN 3 (.t 14)),iI 16 (.callv (.t 11) [(.t 15)])])
 (.cond (.t 16) (.seq (.ops [vI 17 5,vI 4 17])
 .ret) .skip))))
 (.ops [iI 18 (.bin .add (.t 8) (.c (.int .i64 1))),vI 8 18])))))))
 (.seq (.ops [iI 4 (.mv (.c (.int .i64 (-1))))])
 .ret)))
def r165:List RV:=[.t 4]
theorem fn165:cFn Tryz.prog 165=some (c165,r165,19):=by kernel_rfl
end Go.Proofs.YtoejdgoicoaomaaGreatDoor.Code
