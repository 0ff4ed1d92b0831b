/- The small code of a law, with the fact that it is its. -/
import Derived.Test.YtoejdgoicoaomaaGreatDoorCode
namespace Go.Proofs.YtoejdgoicoaomaaGreatDoor.Code
open Go.Mini
set_option maxRecDepth 100000
def c8:MC:=
 (.seq (.ops [iI 3 (.box (.t 0)),iI 5 (.box (.t 2)),iI 6 (.mv (.c (.bool false)))])
 (.seq (.seq (.ops [iI 17 (.call 12 []),iI 18 (.not (.t 17)),vI 19 18,jI 20 (.loadN 3 (.t 3)) 19 false,jI 21 (.call 16 [(.t 20)]) 19 false,jI 22 (.not (.t 21)) 19 false,iI 23 (.pick (.t 19) (.c (.bool true)) (.t 22)),vI 24 23,uI 25 1 24 false,jI 26 (.call 13 [(.t 25)]) 24 false,jI 27 (.bin .eql (.t 26) (.c (.int .i64 0))) 24 false,iI 28 (.pick (.t 24) (.c (.bool true)) (.t 27)),vI 29 28,jI 30 (.fadd 0 (.t 5)) 29 false,jI 31 (.load1 (.t 30)) 29 false,jI 32 (.len true (.t 31)) 29 false,jI 33 (.bin .gtr (.t 32) (.c (.int .i64 50))) 29 false,iI 34 (.pick (.t 29) (.c (.bool true)) (.t 33))])
 (.cond (.t 34) (.seq (.ops [iI 35 (.call 12 []),vI 6 35])
 .ret) .skip))
 (.seq (.ops [iI 37 (.loadN 3 (.t 3)),iI 38 (.call 15 [(.t 37)]),iI 39 (.call 14 [(.t 38)]),vI 36 39,iI 40 (.ext (.t 36) 0),iI 41 (.ext (.t 36) 1),iI 7 (.alloc zl0),sI (.store 172 (.t 7) (.t 40)),vI 8 41])
 (.seq (.ops [iI 42 (.loadN 172 (.t 7)),vI 43 1,iI 44 (.call 28 [(.t 42),(.t 43)]),sI (.store 172 (.t 7) (.t 44))])
 (.seq (.dops [dI (iI 46 (.loadN 172 (.t 7))) 0,dI (iI 47 (.loadN 4 (.t 5))) 1,qI (iI 48 (.call 19 [(.t 47)])) 2,pI (iI 49 (.call 18 [(.t 46),(.t 48)])) 3,dI (vI 45 49) 4,dI (iI 50 (.ext (.t 45) 0)) 5,dI (iI 51 (.ext (.t 45) 1)) 6,dI (iI 52 (.ext (.t 45) 2)) 7,qI (iI 9 (.alloc zl0)) 8,pI (sI (.store 172 (.t 9) (.t 50))) 9,dI (vI 10 51) 10,dI (vI 11 52) 11])
 (.seq (.ops [iI 53 (.mkf (.func 29) [] [(.t 3)]),vI 12 53])
 (.seq (.ops [iI 13 (.mv (.c (.int .i64 0)))])
 (.seq (.seq (.ops [iI 54 (.fadd 0 (.t 5)),iI 55 (.load1 (.t 54)),iI 56 (.call 30 [(.t 55)])])
 (.block 0 (.seq (.ops [iI 58 (.bin .eql (.t 56) (.c (.int .i64 1))),vI 57 58])
 (.cond (.t 57) (.seq (.ops [iI 59 (.fadd 1 (.t 5)),iI 60 (.load1 (.t 59)),iI 61 (.bin .lss (.t 60) (.c (.int .i64 0))),vI 62 61,jI 63 (.fadd 1 (.t 5)) 62 false,jI 64 (.load1 (.t 63)) 62 false,jI 65 (.bin .gtr (.t 64) (.c (.int .i64 9))) 62 false,iI 66 (.pick (.t 62) (.c (.bool true)) (.t 65)),vI 67 66,uI 68 12 67 false,jI 69 (.fadd 2 (.t 5)) 67 false,jI 70 (.load1 (.t 69)) 67 false,jI 71 (.callv (.t 68) [(.t 70)]) 67 false,jI 72 (.not (.t 71)) 67 false,iI 73 (.pick (.t 67) (.c (.bool true)) (.t 72)),vI 74 73,jI 75 (.fadd 3 (.t 5)) 74 false,jI 76 (.load1 (.t 75)) 74 false,jI 77 (.bin .lss (.t 76) (.c (.int .i64 0))) 74 false,iI 78 (.pick (.t 74) (.c (.bool true)) (.t 77)),vI 79 78,jI 80 (.fadd 3 (.t 5)) 79 false,jI 81 (.load1 (.t 80)) 79 false,jI 82 (.bin .gtr (.t 81) (.c (.int .i64 200))) 79 false,iI 83 (.pick (.t 79) (.c (.bool true)) (.t 82))])
 (.cond (.t 83) (.ops [iI 13 (.mv (.c (.int .i64 1)))]) (.seq (.ops [iI 84 (.fadd 1 (.t 5)),iI 85 (.load1 (.t 84)),iI 86 (.fadd 82 (.t 7)),iI 87 (.iaA 10 1 (.t 86) (.t 85)),iI 88 (.load1 (.t 87))])
 (.cond (.t 88) (.ops [iI 13 (.mv (.c (.int .i64 5)))]) (.seq (.dops [dI (iI 89 (.loadN 172 (.t 7))) 0,dI (iI 91 (.fadd 2 (.t 5))) 2,dI (iI 92 (.load1 (.t 91))) 3,qI (iI 90 (.call 22 [(.t 89)])) 1,pI (iI 93 (.call 31 [(.t 90),(.t 92)])) 4,dI (iI 94 (.not (.t 93))) 5])
 (.cond (.t 94) (.ops [iI 13 (.mv (.c (.int .i64 10)))]) .skip)))))) (.seq (.ops [iI 96 (.bin .eql (.t 56) (.c (.int .i64 2))),vI 95 96])
 (.cond (.t 95) (.seq (.ops [iI 97 (.fadd 1 (.t 5)),iI 98 (.load1 (.t 97)),iI 99 (.bin .lss (.t 98) (.c (.int .i64 0))),vI 100 99,jI 101 (.fadd 1 (.t 5)) 100 false,jI 102 (.load1 (.t 101)) 100 false,jI 103 (.bin .gtr (.t 102) (.c (.int .i64 19))) 100 false,iI 104 (.pick (.t 100) (.c (.bool true)) (.t 103)),vI 105 104,uI 106 12 105 false,jI 107 (.fadd 2 (.t 5)) 105 false,jI 108 (.load1 (.t 107)) 105 false,jI 109 (.callv (.t 106) [(.t 108)]) 105 false,jI 110 (.not (.t 109)) 105 false,iI 111 (.pick (.t 105) (.c (.bool true)) (.t 110)),vI 112 111,uI 113 12 112 false,jI 114 (.fadd 3 (.t 5)) 112 false,jI 115 (.load1 (.t 114)) 112 false,jI 116 (.callv (.t 113) [(.t 115)]) 112 false,jI 117 (.not (.t 116)) 112 false,iI 118 (.pick (.t 112) (.c (.bool true)) (.t 117))])
 (.cond (.t 118) (.ops [iI 13 (.mv (.c (.int .i64 1)))]) (.seq (.ops [iI 119 (.fadd 1 (.t 5)),iI 120 (.load1 (.t 119)),iI 121 (.fadd 152 (.t 7)),iI 122 (.iaA 20 1 (.t 121) (.t 120)),iI 123 (.load1 (.t 122))])
 (.cond (.t 123) (.ops [iI 13 (.mv (.c (.int .i64 5)))]) .skip)))) (.seq (.seq (.ops [iI 125 (.bin .eql (.t 56) (.c (.int .i64 3))),vI 124 125])
 (.cond (.t 124) .skip (.ops [iI 126 (.bin .eql (.t 56) (.c (.int .i64 4))),vI 124 126])))
 (.cond (.t 124) (.seq (.ops [vI 127 12,iI 128 (.fadd 2 (.t 5)),iI 129 (.load1 (.t 128)),iI 130 (.callv (.t 127) [(.t 129)]),iI 131 (.not (.t 130)),vI 132 131,jI 133 (.fadd 2 (.t 3)) 132 false,jI 134 (.load1 (.t 133)) 132 false,jI 135 (.fadd 2 (.t 5)) 132 false,jI 136 (.load1 (.t 135)) 132 false,jI 137 (.idxS (.t 134) (.t 136)) 132 false,jI 138 (.bin .neq (.t 137) (.c (.int .u8 67))) 132 false,iI 139 (.pick (.t 132) (.c (.bool true)) (.t 138))])
 (.cond (.t 139) (.ops [iI 13 (.mv (.c (.int .i64 1)))]) .skip)) (.seq (.ops [iI 141 (.bin .eql (.t 56) (.c (.int .i64 5))),vI 140 141])
 (.cond (.t 140) (.seq (.ops [iI 142 (.fadd 1 (.t 5)),iI 143 (.load1 (.t 142)),iI 144 (.bin .lss (.t 143) (.c (.int .i64 0))),vI 145 144,jI 146 (.fadd 1 (.t 5)) 145 false,jI 147 (.load1 (.t 146)) 145 false,jI 148 (.bin .gtr (.t 147) (.c (.int .i64 9))) 145 false,iI 149 (.pick (.t 145) (.c (.bool true)) (.t 148)),vI 150 149,jI 151 (.fadd 2 (.t 5)) 150 false,jI 152 (.load1 (.t 151)) 150 false,jI 153 (.bin .lss (.t 152) (.c (.int .i64 0))) 150 false,iI 154 (.pick (.t 150) (.c (.bool true)) (.t 153)),vI 155 154,jI 156 (.fadd 2 (.t 5)) 155 false,jI 157 (.load1 (.t 156)) 155 false,jI 158 (.bin .gtr (.t 157) (.c (.int .i64 200))) 155 false,iI 159 (.pick (.t 155) (.c (.bool true)) (.t 158))])
 (.cond (.t 159) (.ops [iI 13 (.mv (.c (.int .i64 1)))]) (.seq (.ops [iI 160 (.fadd 1 (.t 5)),iI 161 (.load1 (.t 160)),iI 162 (.fadd 82 (.t 7)),iI 163 (.iaA 10 1 (.t 162) (.t 161)),iI 164 (.load1 (.t 163)),iI 165 (.not (.t 164))])
 (.cond (.t 165) (.ops [iI 13 (.mv (.c (.int .i64 4)))]) .skip)))) (.seq (.ops [iI 167 (.bin .eql (.t 56) (.c (.int .i64 6))),vI 166 167])
 (.cond (.t 166) (.ops [iI 13 (.mv (.c (.int .i64 0)))]) (.ops [iI 13 (.mv (.c (.int .i64 1)))])))))))))))))
 (.seq (.ops [iI 169 (.bld zl0 []),iI 170 (.loadN 4 (.t 5)),iI 171 (.call 19 [(.t 170)]),iI 172 (.call 18 [(.t 169),(.t 171)]),vI 168 172,iI 173 (.ext (.t 168) 0),iI 174 (.ext (.t 168) 1),iI 175 (.ext (.t 168) 2),iI 14 (.alloc zl0),sI (.store 172 (.t 14) (.t 173)),vI 15 174,vI 16 175])
 (.seq (.ops [vI 176 11,iI 177 (.call 17 [(.t 176)]),vI 178 13,iI 179 (.bin .eql (.t 177) (.t 178)),vI 180 179,uI 181 16 180 true,jI 182 (.call 17 [(.t 181)]) 180 true,jI 183 (.bin .eql (.t 182) (.c (.int .i64 1))) 180 true,iI 184 (.pick (.t 180) (.t 183) (.c (.bool false))),vI 6 184])
 .ret))))))))))
def r8:List RV:=[.t 6]
theorem fn8:cFn Tryz.prog 8=some (c8,r8,185):=by kernel_rfl
end Go.Proofs.YtoejdgoicoaomaaGreatDoor.Code
