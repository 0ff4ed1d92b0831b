/- Contracts of library functions at this program, laid by the kit. -/
import Derived.Shelf.Strings.Builder1
import Derived.Shelf.Strings.Trim
import Derived.Shelf.Small.Utf8
import Derived.Shelf.Small.Strs
import Derived.Shelf.Strings.BuilderF
import Derived.Shelf.Strings.Search1
import Derived.Shelf.Strings.Search2
import Derived.Shelf.Strings.Search3
import Derived.Shelf.Strings.Count
import Derived.Shelf.LaysM
import Derived.Shelf.Strings.Shaped
import Derived.Shelf.GgClosure.StringsIndexFunc
import Derived.Ground.GgwProg
import Derived.Shelf.GgClosure.StringsIndexFuncTop
import Derived.Shelf.Strings.Runes
import Derived.Shelf.Strings.AsciiSet
import Derived.Shelf.Bits.Mul64
import Derived.Shelf.Unicode.DecodeSlow
import Derived.Shelf.Unicode.DecodeAny
import Derived.Shelf.Unicode.DecodeLast
import Derived.Shelf.Strings.FuncGrows
import Derived.Shelf.Slices.Turned
import Derived.Test.YtoejdgoicoaomaaGreatDoorProg
set_option linter.unusedVariables false
set_option linter.unusedSimpArgs false
namespace Go.Proofs
open Go.Shelf
def Tryz.lays169_ren:Go.Shelf.Ren:=⟨fun | 169=>129 | n=>n,fun | 70=>198 | 9=>9 | 0=>0 | 72=>200 | 37=>158 | 127=>223 | 3=>3 | 5=>5 | n=>n,fun | n=>n⟩
theorem Tryz.lays169:Go.Proofs.Lays.n169 Tryz.prog Tryz.lays169_ren:={
 mixed:=by kernel_rfl
 f169:=Tryz.func129.trans (congrArg some (by kernel_rfl))
 t0:=Tryz.underlying0
 a0:=Tryz.isAgg0
 z0:=Tryz.sizeOf0
 v0:=Tryz.zeroValue0
 t3:=Tryz.underlying3
 a3:=Tryz.isAgg3
 z3:=Tryz.sizeOf3
 v3:=Tryz.zeroValue3
 t9:=Tryz.underlying9
 a9:=Tryz.isAgg9
 z9:=Tryz.sizeOf9
 v9:=Tryz.zeroValue9
 t37:=Tryz.underlying158
 a37:=Tryz.isAgg158
 z37:=Tryz.sizeOf158
 v37:=Tryz.zeroValue158
 t70:=Tryz.underlying198
 a70:=Tryz.isAgg198
 z70:=Tryz.sizeOf198
 v70:=Tryz.zeroValue198
 t72:=Tryz.underlying200
 a72:=Tryz.isAgg200
 z72:=Tryz.sizeOf200
 v72:=Tryz.zeroValue200
 t127:=Tryz.underlying223
 a127:=Tryz.isAgg223
 z127:=Tryz.sizeOf223
 v127:=Tryz.zeroValue223 }
theorem Tryz.Builder_Extra_169:Builder.Extra Tryz.prog Tryz.lays169_ren:={
 sizeBuilder:=by kernel_rfl
 liesBuilder:=by kernel_rfl
 t5:=Tryz.underlying5
 a5:=Tryz.isAgg5
 z5:=Tryz.sizeOf5
 v5:=Tryz.zeroValue5
 infoByte:=by kernel_rfl
 cellsByte:=by kernel_rfl
 sizeByte:=by kernel_rfl
 neB5:=by decide }
def Tryz.lays231_ren:Go.Shelf.Ren:=⟨fun | 231=>100 | n=>n,fun | 9=>9 | 5=>5 | 3=>3 | 4=>4 | n=>n,fun | n=>n⟩
def Tryz.lays232_ren:Go.Shelf.Ren:=⟨fun | 232=>101 | n=>n,fun | 9=>9 | 5=>5 | 3=>3 | 4=>4 | n=>n,fun | n=>n⟩
def Tryz.lays160_ren:Go.Shelf.Ren:=⟨fun | 160=>69 | 232=>101 | 231=>100 | 227=>102 | 234=>104 | 233=>103 | 236=>106 | 235=>105 | 228=>133 | 271=>135 | 151=>72 | 197=>134 | 120=>154 | 152=>108 | 260=>153 | 137=>137 | 119=>138 | 224=>111 | 225=>110 | 217=>109 | 266=>139 | n=>n,fun | 9=>9 | 4=>4 | 3=>3 | 5=>5 | 117=>174 | 116=>173 | 0=>0 | 124=>177 | 21=>21 | 105=>211 | 46=>162 | 119=>231 | 139=>234 | 138=>233 | n=>n,fun | 3=>2 | 4=>3 | n=>n⟩
def Tryz.lays119_ren:Go.Shelf.Ren:=⟨fun | 119=>138 | n=>n,fun | 21=>21 | 4=>4 | n=>n,fun | n=>n⟩
def Tryz.lays120_ren:Go.Shelf.Ren:=⟨fun | 120=>154 | n=>n,fun | 5=>5 | 4=>4 | n=>n,fun | n=>n⟩
def Tryz.lays137_ren:Go.Shelf.Ren:=⟨fun | 137=>137 | 217=>109 | 266=>139 | n=>n,fun | 9=>9 | 5=>5 | 3=>3 | n=>n,fun | n=>n⟩
def Tryz.lays217_ren:Go.Shelf.Ren:=⟨fun | 217=>109 | 266=>139 | n=>n,fun | 9=>9 | 5=>5 | 3=>3 | n=>n,fun | n=>n⟩
def Tryz.lays224_ren:Go.Shelf.Ren:=⟨fun | 224=>111 | n=>n,fun | 3=>3 | n=>n,fun | n=>n⟩
def Tryz.lays314_ren:Go.Shelf.Ren:=⟨fun | 314=>140 | n=>n,fun | 9=>9 | 51=>203 | 3=>3 | 4=>4 | 5=>5 | 46=>162 | n=>n,fun | n=>n⟩
def Tryz.lays267_ren:Go.Shelf.Ren:=⟨fun | 267=>112 | 314=>140 | n=>n,fun | 9=>9 | 3=>3 | 146=>204 | 51=>203 | 4=>4 | 5=>5 | 46=>162 | n=>n,fun | n=>n⟩
def Tryz.lays219_ren:Go.Shelf.Ren:=⟨fun | 219=>73 | 217=>109 | 225=>110 | 224=>111 | 267=>112 | 266=>139 | 314=>140 | n=>n,fun | 9=>9 | 3=>3 | 4=>4 | 5=>5 | 46=>162 | 146=>204 | 51=>203 | n=>n,fun | 1=>1 | n=>n⟩
def Tryz.lays143_ren:Go.Shelf.Ren:=⟨fun | 143=>45 | 219=>73 | 217=>109 | 225=>110 | 224=>111 | 267=>112 | 266=>139 | 314=>140 | n=>n,fun | 9=>9 | 3=>3 | 4=>4 | 5=>5 | 46=>162 | 146=>204 | 51=>203 | n=>n,fun | 1=>1 | n=>n⟩
theorem Tryz.lays143:Go.Proofs.Lays.n143 Tryz.prog Tryz.lays143_ren:={
 mixed:=by kernel_rfl
 f143:=Tryz.func45.trans (congrArg some (by kernel_rfl))
 f217:=Tryz.func109.trans (congrArg some (by kernel_rfl))
 f219:=Tryz.func73.trans (congrArg some (by kernel_rfl))
 f224:=Tryz.func111.trans (congrArg some (by kernel_rfl))
 f225:=Tryz.func110.trans (congrArg some (by kernel_rfl))
 f266:=Tryz.func139.trans (congrArg some (by kernel_rfl))
 f267:=Tryz.func112.trans (congrArg some (by kernel_rfl))
 f314:=Tryz.func140.trans (congrArg some (by kernel_rfl))
 t3:=Tryz.underlying3
 a3:=Tryz.isAgg3
 z3:=Tryz.sizeOf3
 v3:=Tryz.zeroValue3
 t4:=Tryz.underlying4
 a4:=Tryz.isAgg4
 z4:=Tryz.sizeOf4
 v4:=Tryz.zeroValue4
 t5:=Tryz.underlying5
 a5:=Tryz.isAgg5
 z5:=Tryz.sizeOf5
 v5:=Tryz.zeroValue5
 t9:=Tryz.underlying9
 a9:=Tryz.isAgg9
 z9:=Tryz.sizeOf9
 v9:=Tryz.zeroValue9
 t46:=Tryz.underlying162
 a46:=Tryz.isAgg162
 z46:=Tryz.sizeOf162
 v46:=Tryz.zeroValue162
 t51:=Tryz.underlying203
 a51:=Tryz.isAgg203
 z51:=Tryz.sizeOf203
 v51:=Tryz.zeroValue203
 t146:=Tryz.underlying204
 a146:=Tryz.isAgg204
 z146:=Tryz.sizeOf204
 v146:=Tryz.zeroValue204
 g1:=by kernel_rfl }
open Go.RowKit Go.Lib in
theorem Tryz.strings_Index_one (s:ByteArray) (c:UInt8) (w:World):
 Calls Tryz.prog 45 #[.string s,.string ⟨#[c]⟩] w fun e w'=>e=.returned (.int .i64 (Lib.indexByte s.data.toList c))∧w'=w:=Any.strings_Index_one Tryz.lays143 s c w
def Tryz.lays138_ren:Go.Shelf.Ren:=⟨fun | 138=>47 | 195=>75 | 218=>76 | 143=>45 | 219=>73 | 217=>109 | 225=>110 | 224=>111 | 267=>112 | 266=>139 | 314=>140 | n=>n,fun | 9=>9 | 3=>3 | 4=>4 | 5=>5 | 0=>0 | 46=>162 | 146=>204 | 51=>203 | n=>n,fun | 1=>1 | n=>n⟩
theorem Tryz.lays138:Go.Proofs.Lays.n138 Tryz.prog Tryz.lays138_ren:={
 mixed:=by kernel_rfl
 f138:=Tryz.func47.trans (congrArg some (by kernel_rfl))
 f143:=Tryz.func45.trans (congrArg some (by kernel_rfl))
 f195:=Tryz.func75.trans (congrArg some (by kernel_rfl))
 f217:=Tryz.func109.trans (congrArg some (by kernel_rfl))
 f218:=Tryz.func76.trans (congrArg some (by kernel_rfl))
 f219:=Tryz.func73.trans (congrArg some (by kernel_rfl))
 f224:=Tryz.func111.trans (congrArg some (by kernel_rfl))
 f225:=Tryz.func110.trans (congrArg some (by kernel_rfl))
 f266:=Tryz.func139.trans (congrArg some (by kernel_rfl))
 f267:=Tryz.func112.trans (congrArg some (by kernel_rfl))
 f314:=Tryz.func140.trans (congrArg some (by kernel_rfl))
 t0:=Tryz.underlying0
 a0:=Tryz.isAgg0
 z0:=Tryz.sizeOf0
 v0:=Tryz.zeroValue0
 t3:=Tryz.underlying3
 a3:=Tryz.isAgg3
 z3:=Tryz.sizeOf3
 v3:=Tryz.zeroValue3
 t4:=Tryz.underlying4
 a4:=Tryz.isAgg4
 z4:=Tryz.sizeOf4
 v4:=Tryz.zeroValue4
 t5:=Tryz.underlying5
 a5:=Tryz.isAgg5
 z5:=Tryz.sizeOf5
 v5:=Tryz.zeroValue5
 t9:=Tryz.underlying9
 a9:=Tryz.isAgg9
 z9:=Tryz.sizeOf9
 v9:=Tryz.zeroValue9
 t46:=Tryz.underlying162
 a46:=Tryz.isAgg162
 z46:=Tryz.sizeOf162
 v46:=Tryz.zeroValue162
 t51:=Tryz.underlying203
 a51:=Tryz.isAgg203
 z51:=Tryz.sizeOf203
 v51:=Tryz.zeroValue203
 t146:=Tryz.underlying204
 a146:=Tryz.isAgg204
 z146:=Tryz.sizeOf204
 v146:=Tryz.zeroValue204
 g1:=by kernel_rfl }
open Go.RowKit Go.Lib in
theorem Tryz.strings_Count_one (s:ByteArray) (c:UInt8) (w:World):
 Calls Tryz.prog 47 #[.string s,.string ⟨#[c]⟩] w fun e w'=>e=.returned (.int .i64 (Lib.countByte s.data.toList c))∧w'=w:=Any.strings_Count_one Tryz.lays138 s c w
def Tryz.laysM219_ren:Go.Shelf.Ren:=⟨fun | 219=>73 | 217=>109 | 225=>110 | 224=>111 | 267=>112 | 266=>139 | 314=>140 | n=>n,fun | 9=>9 | 3=>3 | 4=>4 | 5=>5 | 46=>162 | 146=>204 | 51=>203 | n=>n,fun | 1=>1 | n=>n⟩
def Tryz.laysM143_ren:Go.Shelf.Ren:=⟨fun | 143=>45 | 219=>73 | 217=>109 | 225=>110 | 224=>111 | 267=>112 | 266=>139 | 314=>140 | n=>n,fun | 9=>9 | 3=>3 | 4=>4 | 5=>5 | 46=>162 | 146=>204 | 51=>203 | n=>n,fun | 1=>1 | n=>n⟩
def Tryz.laysM138_ren:Go.Shelf.Ren:=⟨fun | 138=>47 | 195=>75 | 218=>76 | 143=>45 | 219=>73 | 217=>109 | 225=>110 | 224=>111 | 267=>112 | 266=>139 | 314=>140 | n=>n,fun | 9=>9 | 3=>3 | 4=>4 | 5=>5 | 0=>0 | 46=>162 | 146=>204 | 51=>203 | n=>n,fun | 1=>1 | n=>n⟩
def Tryz.lays315_ren:Go.Shelf.Ren:=⟨fun | 315=>136 | n=>n,fun | 9=>9 | 40=>129 | 4=>4 | 3=>3 | 0=>0 | 21=>21 | n=>n,fun | n=>n⟩
def Tryz.laysGw15_ren:Go.Shelf.Ren:=⟨fun | 15=>107 | 20=>136 | n=>n,fun | 9=>9 | 23=>129 | 3=>3 | 4=>4 | 0=>0 | 21=>21 | n=>n,fun | n=>n⟩
def Tryz.laysGw17_ren:Go.Shelf.Ren:=⟨fun | 17=>70 | 15=>107 | 20=>136 | n=>n,fun | 9=>9 | 23=>129 | 4=>4 | 3=>3 | 0=>0 | 21=>21 | n=>n,fun | n=>n⟩
def Tryz.lays152_ren:Go.Shelf.Ren:=⟨fun | 152=>108 | 137=>137 | 119=>138 | 224=>111 | 225=>110 | 217=>109 | 266=>139 | n=>n,fun | 9=>9 | 21=>21 | 3=>3 | 4=>4 | 5=>5 | 0=>0 | 46=>162 | n=>n,fun | n=>n⟩
def Tryz.lays151_ren:Go.Shelf.Ren:=⟨fun | 151=>72 | 152=>108 | 137=>137 | 119=>138 | 224=>111 | 225=>110 | 217=>109 | 266=>139 | n=>n,fun | 9=>9 | 21=>21 | 4=>4 | 3=>3 | 5=>5 | 0=>0 | 46=>162 | n=>n,fun | n=>n⟩
theorem Tryz.lays151:Go.Proofs.Lays.n151 Tryz.prog Tryz.lays151_ren:={
 mixed:=by kernel_rfl
 f119:=Tryz.func138.trans (congrArg some (by kernel_rfl))
 f137:=Tryz.func137.trans (congrArg some (by kernel_rfl))
 f151:=Tryz.func72.trans (congrArg some (by kernel_rfl))
 f152:=Tryz.func108.trans (congrArg some (by kernel_rfl))
 f217:=Tryz.func109.trans (congrArg some (by kernel_rfl))
 f224:=Tryz.func111.trans (congrArg some (by kernel_rfl))
 f225:=Tryz.func110.trans (congrArg some (by kernel_rfl))
 f266:=Tryz.func139.trans (congrArg some (by kernel_rfl))
 t0:=Tryz.underlying0
 a0:=Tryz.isAgg0
 z0:=Tryz.sizeOf0
 v0:=Tryz.zeroValue0
 t3:=Tryz.underlying3
 a3:=Tryz.isAgg3
 z3:=Tryz.sizeOf3
 v3:=Tryz.zeroValue3
 t4:=Tryz.underlying4
 a4:=Tryz.isAgg4
 z4:=Tryz.sizeOf4
 v4:=Tryz.zeroValue4
 t5:=Tryz.underlying5
 a5:=Tryz.isAgg5
 z5:=Tryz.sizeOf5
 v5:=Tryz.zeroValue5
 t9:=Tryz.underlying9
 a9:=Tryz.isAgg9
 z9:=Tryz.sizeOf9
 v9:=Tryz.zeroValue9
 t21:=Tryz.underlying21
 a21:=Tryz.isAgg21
 z21:=Tryz.sizeOf21
 v21:=Tryz.zeroValue21
 t46:=Tryz.underlying162
 a46:=Tryz.isAgg162
 z46:=Tryz.sizeOf162
 v46:=Tryz.zeroValue162 }
open Go.RowKit Go.Lib in
theorem Tryz.strings_ContainsRune_ascii (s:ByteArray) (r:Int) (w:World) (h0:0≤r) (h1:r < 128):
 Calls Tryz.prog 72 #[.string s,.int .i32 r] w fun e w'=>e=.returned (.bool (decide (0≤Lib.indexByte s.data.toList r.toNat.toUInt8)))∧w'=w:=Any.strings_ContainsRune_ascii Tryz.lays151 s r w h0 h1
def Tryz.lays227_ren:Go.Shelf.Ren:=⟨fun | 227=>102 | n=>n,fun | 9=>9 | 116=>173 | 4=>4 | 0=>0 | 3=>3 | 5=>5 | n=>n,fun | n=>n⟩
theorem Tryz.lays227:Go.Proofs.Lays.n227 Tryz.prog Tryz.lays227_ren:={
 mixed:=by kernel_rfl
 f227:=Tryz.func102.trans (congrArg some (by kernel_rfl))
 t0:=Tryz.underlying0
 a0:=Tryz.isAgg0
 z0:=Tryz.sizeOf0
 v0:=Tryz.zeroValue0
 t3:=Tryz.underlying3
 a3:=Tryz.isAgg3
 z3:=Tryz.sizeOf3
 v3:=Tryz.zeroValue3
 t4:=Tryz.underlying4
 a4:=Tryz.isAgg4
 z4:=Tryz.sizeOf4
 v4:=Tryz.zeroValue4
 t5:=Tryz.underlying5
 a5:=Tryz.isAgg5
 z5:=Tryz.sizeOf5
 v5:=Tryz.zeroValue5
 t9:=Tryz.underlying9
 a9:=Tryz.isAgg9
 z9:=Tryz.sizeOf9
 v9:=Tryz.zeroValue9
 t116:=Tryz.underlying173
 a116:=Tryz.isAgg173
 z116:=Tryz.sizeOf173 }
open Go.RowKit Go.Lib in
theorem Tryz.strings_makeASCIISet (hv116:∀ w,(zeroValue 173).run Tryz.prog w=.ok (.agg (Array.replicate 256 (.bool false))) w) (chars:ByteArray) (w:World) (hs:chars.size < 4294967281) (hascii:∀ (j:Nat) b,chars.data.toList[j]?=some b→b.toNat < 128):
 Calls Tryz.prog 102 #[.string chars] w fun e w'=>e=.returned (.tuple #[.agg (Lib.setCells chars.data.toList),.bool true])∧w'=w.alloc (.cells (Lib.setCells chars.data.toList) 173):=Any.strings_makeASCIISet Tryz.lays227 hv116 (by kernel_rfl) chars w hs hascii
def Tryz.lays228_ren:Go.Shelf.Ren:=⟨fun | 228=>133 | n=>n,fun | 124=>177 | 5=>5 | 4=>4 | 0=>0 | 116=>173 | n=>n,fun | n=>n⟩
def Tryz.lays264_ren:Go.Shelf.Ren:=⟨fun | 264=>131 | n=>n,fun | 53=>206 | 46=>162 | n=>n,fun | n=>n⟩
def Tryz.lays212_ren:Go.Shelf.Ren:=⟨fun | 212=>95 | 263=>130 | 264=>131 | n=>n,fun | 46=>162 | 51=>203 | 146=>204 | 53=>206 | 148=>207 | n=>n,fun | n=>n⟩
theorem Tryz.lays212:Go.Proofs.Lays.n212 Tryz.prog Tryz.lays212_ren:={
 mixed:=by kernel_rfl
 f212:=Tryz.func95.trans (congrArg some (by kernel_rfl))
 f263:=Tryz.func130.trans (congrArg some (by kernel_rfl))
 f264:=Tryz.func131.trans (congrArg some (by kernel_rfl))
 t46:=Tryz.underlying162
 a46:=Tryz.isAgg162
 z46:=Tryz.sizeOf162
 v46:=Tryz.zeroValue162
 t51:=Tryz.underlying203
 a51:=Tryz.isAgg203
 z51:=Tryz.sizeOf203
 v51:=Tryz.zeroValue203
 t53:=Tryz.underlying206
 a53:=Tryz.isAgg206
 z53:=Tryz.sizeOf206
 v53:=Tryz.zeroValue206
 t146:=Tryz.underlying204
 a146:=Tryz.isAgg204
 z146:=Tryz.sizeOf204
 v146:=Tryz.zeroValue204
 t148:=Tryz.underlying207
 a148:=Tryz.isAgg207
 z148:=Tryz.sizeOf207
 v148:=Tryz.zeroValue207 }
open Go.RowKit Go.Lib in
theorem Tryz.bits_Mul (x y:Nat) (hx:x < 18446744073709551616) (hy:y < 18446744073709551616) (w:World):
 Calls Tryz.prog 95 #[.int .u64 x,.int .u64 y] w fun e w'=>e=.returned (.tuple #[.int .u64 ((x * y / 18446744073709551616:Nat):Int),.int .u64 ((x * y % 18446744073709551616:Nat):Int)])∧w'=w:=Any.bits_Mul Tryz.lays212 x y hx hy w
def Tryz.lays260_ren:Go.Shelf.Ren:=⟨fun | 260=>153 | n=>n,fun | 9=>9 | 21=>21 | 3=>3 | 4=>4 | 5=>5 | 119=>231 | 0=>0 | 46=>162 | 139=>234 | 138=>233 | n=>n,fun | 3=>2 | 4=>3 | n=>n⟩
def Tryz.lays197_ren:Go.Shelf.Ren:=⟨fun | 197=>134 | 260=>153 | n=>n,fun | 9=>9 | 21=>21 | 3=>3 | 4=>4 | 5=>5 | 105=>211 | 119=>231 | 0=>0 | 46=>162 | 139=>234 | 138=>233 | n=>n,fun | 3=>2 | 4=>3 | n=>n⟩
def Tryz.lays271_ren:Go.Shelf.Ren:=⟨fun | 271=>135 | 120=>154 | 197=>134 | 260=>153 | n=>n,fun | 9=>9 | 21=>21 | 3=>3 | 4=>4 | 5=>5 | 105=>211 | 119=>231 | 0=>0 | 46=>162 | 139=>234 | 138=>233 | n=>n,fun | 3=>2 | 4=>3 | n=>n⟩
def Tryz.lays108_ren:Go.Shelf.Ren:=⟨fun | 108=>67 | n=>n,fun | 28=>57 | 3=>3 | 0=>0 | 4=>4 | n=>n,fun | n=>n⟩
def Tryz.lays107_ren:Go.Shelf.Ren:=⟨fun | 107=>43 | 108=>67 | n=>n,fun | 28=>57 | 3=>3 | 4=>4 | 0=>0 | n=>n,fun | n=>n⟩
end Go.Proofs
