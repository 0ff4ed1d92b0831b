/- The small code of a law, with the fact that it is its. -/
import Derived.Test.YtoejdgoicoaomaaGreatDoorCode
namespace Go.Proofs.YtoejdgoicoaomaaGreatDoor.Code
open Go.Mini
set_option maxRecDepth 100000
def c7:MC:=
 (.seq (.ops [iI 3 (.box (.t 0)),iI 6 (.mv (.c (.bool false)))])
 (.seq (.seq (.ops [iI 29 (.call 12 []),iI 30 (.not (.t 29)),vI 31 30,jI 32 (.loadN 3 (.t 3)) 31 false,jI 33 (.call 16 [(.t 32)]) 31 false,jI 34 (.not (.t 33)) 31 false,iI 35 (.pick (.t 31) (.c (.bool true)) (.t 34))])
 (.cond (.t 35) (.seq (.ops [iI 36 (.call 12 []),vI 6 36])
 .ret) .skip))
 (.seq (.ops [iI 37 (.loadN 3 (.t 3)),iI 38 (.call 15 [(.t 37)]),iI 7 (.alloc [(.int .i64 0),(.int .i64 0),(.string ⟨#[]⟩)]),sI (.store 3 (.t 7) (.t 38))])
 (.seq (.ops [iI 39 (.loadN 3 (.t 7)),iI 40 (.call 26 [(.t 39),(.c (.int .u8 67))]),vI 8 40])
 (.seq (.dops [dI (vI 41 1) 0,dI (iI 42 (.conv .i64 (.t 41))) 1,dI (iI 43 (.fadd 2 (.t 3))) 2,dI (iI 44 (.load1 (.t 43))) 3,dI (iI 45 (.len true (.t 44))) 4,dI (iI 46 (.bin .rem (.t 42) (.t 45))) 5,dI (vI 47 2) 6,dI (iI 48 (.conv .i64 (.t 47))) 7,dI (iI 49 (.fadd 2 (.t 3))) 8,dI (iI 50 (.load1 (.t 49))) 9,dI (iI 51 (.len true (.t 50))) 10,dI (iI 52 (.bin .rem (.t 48) (.t 51))) 11,dI (vI 9 46) 12,dI (vI 10 52) 13])
 (.seq (.seq (.ops [iI 53 (.fadd 2 (.t 3)),iI 54 (.load1 (.t 53)),vI 55 9,iI 56 (.idxS (.t 54) (.t 55)),iI 57 (.bin .eql (.t 56) (.c (.int .u8 35))),vI 58 57,jI 59 (.fadd 2 (.t 3)) 58 false,jI 60 (.load1 (.t 59)) 58 false,uI 61 10 58 false,jI 62 (.idxS (.t 60) (.t 61)) 58 false,jI 63 (.bin .eql (.t 62) (.c (.int .u8 35))) 58 false,iI 64 (.pick (.t 58) (.c (.bool true)) (.t 63)),vI 65 64,uI 66 8 65 false,jI 67 (.len false (.t 66)) 65 false,jI 68 (.bin .eql (.t 67) (.c (.int .i64 0))) 65 false,iI 69 (.pick (.t 65) (.c (.bool true)) (.t 68))])
 (.cond (.t 69) (.seq (.ops [vI 70 8,iI 71 (.len false (.t 70)),iI 72 (.bin .gtr (.t 71) (.c (.int .i64 0))),vI 6 72])
 .ret) .skip))
 (.seq (.ops [iI 74 (.loadN 3 (.t 7)),iI 75 (.call 14 [(.t 74)]),vI 73 75,iI 76 (.ext (.t 73) 0),iI 77 (.ext (.t 73) 1),iI 11 (.alloc zl0),sI (.store 172 (.t 11) (.t 76)),vI 12 77])
 (.seq (.dops [dI (iI 79 (.loadN 172 (.t 11))) 0,dI (vI 80 8) 1,dI (iI 81 (.iaS 1 (.t 80) (.c (.int .i64 0)))) 2,dI (iI 82 (.load1 (.t 81))) 3,dI (iI 83 (.bld [(.string ⟨#[]⟩),(.int .i64 0),(.int .i64 0),(.int .i64 0)] [(0,1,(.c (.string ⟨#[114,111,98,111,116]⟩))),(1,1,(.c (.int .i64 0))),(2,1,(.t 82)),(3,1,(.c (.int .i64 200)))])) 4,pI (iI 84 (.call 18 [(.t 79),(.t 83)])) 5,dI (vI 78 84) 6,dI (iI 85 (.ext (.t 78) 0)) 7,dI (iI 86 (.ext (.t 78) 1)) 8,dI (iI 87 (.ext (.t 78) 2)) 9,pI (sI (.store 172 (.t 11) (.t 85))) 10,dI (vI 13 86) 11,dI (vI 14 87) 12])
 (.seq (.ops [iI 89 (.loadN 172 (.t 11)),vI 90 9,vI 91 10,iI 92 (.bld [(.string ⟨#[]⟩),(.int .i64 0),(.int .i64 0),(.int .i64 0)] [(0,1,(.c (.string ⟨#[116,97,115,107]⟩))),(1,1,(.c (.int .i64 0))),(2,1,(.t 90)),(3,1,(.t 91))]),iI 93 (.call 18 [(.t 89),(.t 92)]),vI 88 93,iI 94 (.ext (.t 88) 0),iI 95 (.ext (.t 88) 1),iI 96 (.ext (.t 88) 2),sI (.store 172 (.t 11) (.t 94)),vI 15 95,vI 16 96])
 (.seq (.seq (.ops [vI 97 14,iI 98 (.call 17 [(.t 97)]),iI 99 (.bin .neq (.t 98) (.c (.int .i64 0))),vI 100 99,uI 101 16 100 false,jI 102 (.call 17 [(.t 101)]) 100 false,jI 103 (.bin .neq (.t 102) (.c (.int .i64 0))) 100 false,iI 104 (.pick (.t 100) (.c (.bool true)) (.t 103))])
 (.cond (.t 104) (.seq (.ops [iI 6 (.mv (.c (.bool false)))])
 .ret) .skip))
 (.seq (.dops [dI (iI 106 (.loadN 3 (.t 7))) 0,dI (vI 107 9) 1,dI (vI 109 8) 3,dI (iI 110 (.iaS 1 (.t 109) (.c (.int .i64 0)))) 4,dI (iI 111 (.load1 (.t 110))) 5,qI (iI 108 (.bsl 1 1 [(.int .i64 0)] [(0,(.t 107))])) 2,pI (iI 112 (.call 27 [(.t 106),(.t 108),(.t 111),(.c (.int .i64 1))])) 6,dI (vI 105 112) 7,dI (iI 113 (.ext (.t 105) 0)) 8,dI (iI 114 (.ext (.t 105) 1)) 9,dI (vI 17 113) 10,dI (vI 18 114) 11])
 (.seq (.ops [iI 116 (.loadN 3 (.t 7)),vI 117 10,iI 118 (.bsl 1 1 [(.int .i64 0)] [(0,(.t 117))]),vI 119 9,iI 120 (.call 27 [(.t 116),(.t 118),(.t 119),(.c (.int .i64 1))]),vI 115 120,iI 121 (.ext (.t 115) 0),iI 122 (.ext (.t 115) 1),vI 19 121,vI 20 122])
 (.seq (.ops [iI 124 (.loadN 3 (.t 7)),vI 125 8,vI 126 10,iI 127 (.call 27 [(.t 124),(.t 125),(.t 126),(.c (.int .i64 1))]),vI 123 127,iI 128 (.ext (.t 123) 0),iI 129 (.ext (.t 123) 1),vI 21 128,vI 22 129])
 (.seq (.seq (.ops [vI 130 17,vI 131 19,iI 132 (.bin .mul (.c (.int .i64 2)) (.t 131)),iI 133 (.bin .add (.t 130) (.t 132)),vI 134 21,iI 135 (.bin .add (.t 133) (.t 134)),iI 136 (.bin .gtr (.t 135) (.c (.int .i64 200)))])
 (.cond (.t 136) (.seq (.ops [iI 138 (.loadN 172 (.t 11)),iI 139 (.bld [(.string ⟨#[]⟩),(.int .i64 0),(.int .i64 0),(.int .i64 0)] [(0,1,(.c (.string ⟨#[116,105,99,107]⟩)))]),iI 140 (.call 18 [(.t 138),(.t 139)]),vI 137 140,iI 141 (.ext (.t 137) 0),iI 142 (.ext (.t 137) 1),iI 143 (.ext (.t 137) 2),sI (.store 172 (.t 11) (.t 141))])
 (.seq (.ops [iI 144 (.fadd 92 (.t 11)),iI 145 (.iaA 20 3 (.t 144) (.c (.int .i64 0))),iI 146 (.fadd 2 (.t 145)),iI 147 (.load1 (.t 146)),iI 148 (.bin .eql (.t 147) (.c (.int .i64 0))),vI 6 148])
 .ret)) .skip))
 (.seq (.ops [iI 150 (.loadN 3 (.t 7)),vI 151 8,vI 152 9,iI 153 (.call 27 [(.t 150),(.t 151),(.t 152),(.c (.int .i64 2))]),vI 149 153,iI 154 (.ext (.t 149) 0),iI 155 (.ext (.t 149) 1),vI 23 154,vI 24 155])
 (.seq (.seq (.ops [vI 156 17,iI 157 (.bin .sub (.c (.int .i64 200)) (.t 156)),vI 158 23,iI 159 (.bin .lss (.t 157) (.t 158)),vI 160 159,uI 161 17 160 false,jI 162 (.bin .sub (.c (.int .i64 200)) (.t 161)) 160 false,uI 163 19 160 false,jI 164 (.bin .mul (.c (.int .i64 2)) (.t 163)) 160 false,jI 165 (.bin .sub (.t 162) (.t 164)) 160 false,uI 166 21 160 false,jI 167 (.bin .mul (.c (.int .i64 2)) (.t 166)) 160 false,jI 168 (.bin .lss (.t 165) (.t 167)) 160 false,iI 169 (.pick (.t 160) (.c (.bool true)) (.t 168))])
 (.cond (.t 169) (.seq (.ops [iI 6 (.mv (.c (.bool true)))])
 .ret) .skip))
 (.seq (.seq (.ops [iI 25 (.mv (.c (.int .i64 0)))])
 (.block 0 (.loop (.seq (.seq (.ops [vI 170 25,vI 171 17,vI 172 19,iI 173 (.bin .add (.t 171) (.t 172)),iI 174 (.bin .add (.t 173) (.c (.int .i64 4))),iI 175 (.bin .lss (.t 170) (.t 174))])
 (.cond (.t 175) .skip (.exit 0)))
 (.seq (.block 1 (.seq (.ops [iI 179 (.loadN 172 (.t 11)),iI 180 (.bld [(.string ⟨#[]⟩),(.int .i64 0),(.int .i64 0),(.int .i64 0)] [(0,1,(.c (.string ⟨#[116,105,99,107]⟩)))]),iI 181 (.call 18 [(.t 179),(.t 180)]),vI 178 181,iI 182 (.ext (.t 178) 0),iI 183 (.ext (.t 178) 1),iI 184 (.ext (.t 178) 2),iI 26 (.alloc zl0),sI (.store 172 (.t 26) (.t 182)),vI 27 183,vI 28 184])
 (.seq (.seq (.ops [vI 185 28,iI 186 (.call 17 [(.t 185)]),iI 187 (.bin .neq (.t 186) (.c (.int .i64 0)))])
 (.cond (.t 187) (.seq (.ops [iI 6 (.mv (.c (.bool false)))])
 .ret) .skip))
 (.ops [iI 188 (.loadN 172 (.t 26)),sI (.store 172 (.t 11) (.t 188))]))))
 (.ops [vI 176 25,iI 177 (.bin .add (.t 176) (.c (.int .i64 1))),vI 25 177]))))))
 (.seq (.ops [iI 189 (.fadd 92 (.t 11)),iI 190 (.iaA 20 3 (.t 189) (.c (.int .i64 0))),iI 191 (.fadd 2 (.t 190)),iI 192 (.load1 (.t 191)),iI 193 (.bin .eql (.t 192) (.c (.int .i64 3))),vI 6 193])
 .ret))))))))))))))))))
def r7:List RV:=[.t 6]
theorem fn7:cFn Tryz.prog 7=some (c7,r7,194):=by kernel_rfl
end Go.Proofs.YtoejdgoicoaomaaGreatDoor.Code
