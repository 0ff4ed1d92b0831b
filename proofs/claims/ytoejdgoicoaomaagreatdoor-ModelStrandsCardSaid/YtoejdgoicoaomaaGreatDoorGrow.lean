/- slices.Grow at this program, laid by the kit. -/
import Derived.Shelf.Spec.SlicesGrow
import Derived.Test.YtoejdgoicoaomaaGreatDoorProg
set_option linter.unusedVariables false
set_option linter.unusedSimpArgs false
namespace Go.Proofs
open Go.Shelf
def Tryz.growI_ren:Go.Shelf.Ren:=⟨fun | 4=>163 | n=>n,fun | 22=>57 | 25=>3 | 3=>3 | 4=>4 | 9=>9 | 20=>20 | 0=>0 | n=>n,fun | n=>n⟩
theorem Tryz.growI:Go.Proofs.Lays8.n4 Tryz.prog Tryz.growI_ren:={
 mixed:=by kernel_rfl
 f4:=⟨Tryz.f163.name,by decide,Tryz.func163.trans (congrArg some (by kernel_rfl))⟩
 t0:=Tryz.underlying0
 a0:=Tryz.isAgg0
 z0:=Tryz.sizeOf0
 v0:=Tryz.zeroValue0
 t3:=Tryz.underlying3
 a3:=Tryz.isAgg3
 z3:=Tryz.sizeOf3
 v3:=Tryz.zeroValue3
 t4:=Tryz.underlying4
 a4:=Tryz.isAgg4
 z4:=Tryz.sizeOf4
 v4:=Tryz.zeroValue4
 t9:=Tryz.underlying9
 a9:=Tryz.isAgg9
 z9:=Tryz.sizeOf9
 v9:=Tryz.zeroValue9
 t20:=Tryz.underlying20
 a20:=Tryz.isAgg20
 z20:=Tryz.sizeOf20
 v20:=Tryz.zeroValue20
 t22:=Tryz.underlying57
 a22:=Tryz.isAgg57
 z22:=Tryz.sizeOf57
 v22:=Tryz.zeroValue57 }
theorem Tryz.slices_Grow_room (base:Option Addr) (l c n:Nat) (w:World) (hlc:l≤c) (hc63:c≤9223372036854775807) (hn63:n≤9223372036854775807) (hroom:l + n≤c):
 Calls Tryz.prog 163 #[.slice base l c,.int .i64 n] w fun e w'=>e=.returned (.slice base l c)∧w'=w:=Any8.slices_Grow_room Tryz.growI base l c n w hlc hc63 hn63 hroom
end Go.Proofs
