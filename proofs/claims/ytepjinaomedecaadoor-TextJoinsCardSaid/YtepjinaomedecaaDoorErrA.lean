/- errors.As at an error with tags around a number: Go's own text is walked. -/
import Derived.Test.YtepjinaomedecaaDoorProg
import Derived.WalkKit
import Derived.LaidEql
import Derived.Stop.Asserts
import Derived.RowKitTokens
import Derived.Below
import Derived.Deep.LoopGhost
namespace Go.Proofs.YtepjinaomedecaaDoor
open Go.RowKit Go.Extern.Stop Go.Stop Go.Extern
set_option linter.unusedVariables false
set_option linter.unusedSimpArgs false

/-- The variable errors.errorType. -/
def ErrType (w : World) : Prop := w.cell? ⟨0, 0, none⟩ = some (.iface 129 (.agg #[.pointer (some ⟨9, 26, none⟩)]))
/-- An error: so many tags around a number. -/
inductive EChain (w : World) : Nat → Value → Int → Prop where
  | num (k : Int) : EChain w 0 (.iface 66 (.int .i64 k)) k
  | tag {n : Nat} {b o : Nat} {v : Value} {k : Int} (h : w.cell? ⟨b, o + 1, none⟩ = some v) (t : EChain w n v k) : EChain w (n + 1) (.iface 101 (.pointer (some ⟨b, o, none⟩))) k
theorem EChain.ofBelow {w w' : World} (hb : Below w.heap.size w w') {n : Nat} {v : Value} {k : Int} (h : EChain w n v k) : EChain w' n v k := by
  induction h with
  | num k => exact .num k
  | @tag n b o v k h t ih =>
    refine .tag ?_ ih
    have hlt : b < w.heap.size := by
      rcases Nat.lt_or_ge b w.heap.size with x | x
      · exact x
      · simp [World.cell?, Array.getElem?_eq_none x] at h
    simp only [World.cell?] at h ⊢
    rw [hb.block b hlt]; exact h

theorem Tryd.valueOfP (t : Addr) (w : World) : (ReflectliteValue.unpack (.iface 77 (.pointer (some t)))).run Tryd.prog w
    = .ok (.agg #[.pointer (some ⟨9, 77, none⟩), .pointer (some ⟨w.heap.size, 0, none⟩), .int .u64 150]) (w.alloc (.cells #[.pointer (some t)] 77)) := by kernel_rfl
theorem Tryd.typeP (a : Addr) (w : World) : (ReflectliteValue.methodAny (ReflectliteValue.valueError "reflectlite.Value.Type" 0) (fun t _ _ _ => ReflectliteType.toType t) #[.agg #[.pointer (some ⟨9, 77, none⟩), .pointer (some a), .int .u64 150]]).run Tryd.prog w
    = .ok (.iface 129 (.agg #[.pointer (some ⟨9, 77, none⟩)])) w := by kernel_rfl
theorem Tryd.methodKind (h : Value) (w : World) : (Go.method 322 129 (.agg #[h]) "Kind").run Tryd.prog w = .ok (140, h) w := by kernel_rfl
theorem Tryd.kindP (w : World) : ((ReflectliteType.abiMethod fun t => (fun a : Nat => Value.int IntKind.u8 (a : Int)) <$> Rtype.kind t) #[.pointer (some ⟨9, 77, none⟩)]).run Tryd.prog w = .ok (.int .u8 22) w := by kernel_rfl
theorem Tryd.kindE (w : World) : ((ReflectliteType.abiMethod fun t => (fun a : Nat => Value.int IntKind.u8 (a : Int)) <$> Rtype.kind t) #[.pointer (some ⟨9, 66, none⟩)]).run Tryd.prog w = .ok (.int .u8 2) w := by kernel_rfl
theorem as_rlm (z : Sem Value) (f : TypeId → Addr → Nat → Nat → Sem Value) (v : Value) :
    ReflectliteValue.method z f #[v] = (do match ← ReflectliteValue.parts v with | none => z | some (t, a, fl) => f t a fl (fl % 32)) := rfl
theorem Tryd.partsP (a : Addr) (w : World) : (ReflectliteValue.parts (.agg #[.pointer (some ⟨9, 77, none⟩), .pointer (some a), .int .u64 150])).run Tryd.prog w = .ok (some (77, a, 150)) w := by kernel_rfl
theorem Tryd.isNilP (a p : Addr) (W : World) (ha : W.cell? a = some (.pointer (some p))) :
    (ReflectliteValue.method (ReflectliteValue.valueError "reflectlite.Value.IsNil" 0) ReflectliteValue.isNil #[.agg #[.pointer (some ⟨9, 77, none⟩), .pointer (some a), .int .u64 150]]).run Tryd.prog W = .ok (.bool false) W := by
  rw [as_rlm]
  simp only [Sem.run_bind, Tryd.partsP, Result.andThen]
  simp [ReflectliteValue.isNil, loadVar, isAgg, underlying, Tryd.underlying77, ha, Result.andThen]
theorem Tryd.methodElem (h : Value) (w : World) : (Go.method 322 129 (.agg #[h]) "Elem").run Tryd.prog w = .ok (153, .agg #[h]) w := by kernel_rfl
theorem Tryd.methodImplements (h : Value) (w : World) : (Go.method 322 129 (.agg #[h]) "Implements").run Tryd.prog w = .ok (154, .agg #[h]) w := by kernel_rfl
theorem Tryd.methodAssignableTo (h : Value) (w : World) : (Go.method 322 129 (.agg #[h]) "AssignableTo").run Tryd.prog w = .ok (151, .agg #[h]) w := by kernel_rfl
theorem Tryd.methodUnwrap (h : Value) (w : World) : (Go.method 322 101 h "Unwrap").run Tryd.prog w = .ok (146, h) w := by kernel_rfl
theorem Tryd.elemP (w : World) : (ReflectliteType.method ReflectliteType.elem #[.agg #[.pointer (some ⟨9, 77, none⟩)]]).run Tryd.prog w = .ok (.iface 129 (.agg #[.pointer (some ⟨9, 66, none⟩)])) w := by kernel_rfl
theorem Tryd.implementsE (w : World) : (ReflectliteType.relation "Implements" ReflectliteType.implements_ #[.agg #[.pointer (some ⟨9, 66, none⟩)], .iface 129 (.agg #[.pointer (some ⟨9, 26, none⟩)])]).run Tryd.prog w = .ok (.bool true) w := by kernel_rfl
theorem Tryd.typeOfE (v : Value) (w : World) : (ReflectliteType.typeOf #[.iface 66 v]).run Tryd.prog w = .ok (.iface 129 (.agg #[.pointer (some ⟨9, 66, none⟩)])) w := by kernel_rfl
theorem Tryd.typeOfT (v : Value) (w : World) : (ReflectliteType.typeOf #[.iface 101 v]).run Tryd.prog w = .ok (.iface 129 (.agg #[.pointer (some ⟨9, 101, none⟩)])) w := by kernel_rfl
theorem Tryd.assignableE (w : World) : (ReflectliteType.relation "AssignableTo" ReflectliteType.assignableTo #[.agg #[.pointer (some ⟨9, 66, none⟩)], .iface 129 (.agg #[.pointer (some ⟨9, 66, none⟩)])]).run Tryd.prog w = .ok (.bool true) w := by kernel_rfl
theorem Tryd.assignableT (w : World) : (ReflectliteType.relation "AssignableTo" ReflectliteType.assignableTo #[.agg #[.pointer (some ⟨9, 101, none⟩)], .iface 129 (.agg #[.pointer (some ⟨9, 66, none⟩)])]).run Tryd.prog w = .ok (.bool false) w := by kernel_rfl
theorem Tryd.valueOfE (k : Int) (w : World) : (ReflectliteValue.unpack (.iface 66 (.int .i64 k))).run Tryd.prog w
    = .ok (.agg #[.pointer (some ⟨9, 66, none⟩), .pointer (some ⟨w.heap.size, 0, none⟩), .int .u64 130]) (w.alloc (.cells #[.int .i64 k] 66)) := by kernel_rfl
theorem Tryd.elemOfP (w : World) : (Rtype.elem? 77).run Tryd.prog w = .ok (some 66) w := by kernel_rfl
theorem Tryd.mkE (p : Addr) (w : World) : (ReflectliteValue.mk 66 p ReflectliteValue.flagAddr).run Tryd.prog w = .ok (.agg #[.pointer (some ⟨9, 66, none⟩), .pointer (some p), .int .u64 386]) w := by kernel_rfl
theorem Tryd.elemVP (a p : Addr) (W : World) (ha : W.cell? a = some (.pointer (some p))) :
    (ReflectliteValue.method (ReflectliteValue.valueError "reflectlite.Value.Elem" 0) ReflectliteValue.elem #[.agg #[.pointer (some ⟨9, 77, none⟩), .pointer (some a), .int .u64 150]]).run Tryd.prog W
      = .ok (.agg #[.pointer (some ⟨9, 66, none⟩), .pointer (some p), .int .u64 386]) W := by
  rw [as_rlm]
  simp only [Sem.run_bind, Tryd.partsP, Result.andThen]
  simp [ReflectliteValue.elem, loadVar, isAgg, underlying, Tryd.underlying77, ha, Result.andThen, Tryd.elemOfP, Tryd.mkE]
theorem as_rls (v x : Value) : ReflectliteValue.set #[v, x] = (do
    let (some (dst, a, fl), some (src, b, _)) := (← ReflectliteValue.parts v, ← ReflectliteValue.parts x)
      | unsupported (.noEntry "extern/(internal/reflectlite.Value).Set.zeroValue")
    if fl / ReflectliteValue.flagAddr % 2 == 0 then unsupported (.noEntry "extern/(internal/reflectlite.Value).Set.unaddressable")
    let val ← loadVar src b
    if ← Rtype.directlyAssignable dst src then storeVar dst a val
    else if ← Rtype.implements dst src then
      if (← Rtype.kind src) == 20 then
        match val with
        | .nilIface => unsupported (.noEntry "extern/reflectlite: a nil value of one interface type handed on as a value of another")
        | _ => storeVar dst a val
      else storeVar dst a (.iface src val)
    else panicString ("reflectlite.Set: value of type " ++ (← Rtype.spelt src) ++ " is not assignable to type " ++ (← Rtype.spelt dst))
    pure (.tuple #[])) := rfl
theorem Tryd.partsEa (a : Addr) (w : World) : (ReflectliteValue.parts (.agg #[.pointer (some ⟨9, 66, none⟩), .pointer (some a), .int .u64 386])).run Tryd.prog w = .ok (some (66, a, 386)) w := by kernel_rfl
theorem Tryd.partsE (a : Addr) (w : World) : (ReflectliteValue.parts (.agg #[.pointer (some ⟨9, 66, none⟩), .pointer (some a), .int .u64 130])).run Tryd.prog w = .ok (some (66, a, 130)) w := by kernel_rfl
theorem Tryd.directE (w : World) : (Rtype.directlyAssignable 66 66).run Tryd.prog w = .ok true w := by kernel_rfl
theorem Tryd.sizeE (w : World) : (sizeOf 66).run Tryd.prog w = .ok 1 w := by kernel_rfl
theorem Tryd.setE (ta b : Addr) (k : Int) (old : Value) (W : World) (hb : W.cell? b = some (.int .i64 k)) (ht : W.cell? ta = some old) (hf : W.frozen? ta = false) :
    (ReflectliteValue.set #[.agg #[.pointer (some ⟨9, 66, none⟩), .pointer (some ta), .int .u64 386], .agg #[.pointer (some ⟨9, 66, none⟩), .pointer (some b), .int .u64 130]]).run Tryd.prog W
      = .ok (.tuple #[]) (W.setCell ta (.int .i64 k)) := by
  rw [as_rls]
  simp only [Sem.run_bind, Tryd.partsEa, Tryd.partsE, Result.andThen]
  simp [ReflectliteValue.flagAddr, loadVar, isAgg, underlying, Tryd.underlying66, hb, Result.andThen, Tryd.directE, storeVar, Value.cells, storeCells, Addr.add]
  rw [run_store Tryd.prog W ta _ _ (by rfl)]
  simp [ht, hf]
theorem Tryd.noAsT (v : Value) (xT : TypeId) (w : World) : (Instr.typeAssert (.iface 101 v) xT 134 true).run Tryd.prog w = .ok (.tuple #[.nilIface, .bool false]) w := run_typeAssert_lacksB Tryd.underlying134 (by kernel_rfl) (by kernel_rfl) v xT w
theorem Tryd.unT (v : Value) (xT : TypeId) (w : World) : (Instr.typeAssert (.iface 101 v) xT 137 true).run Tryd.prog w = .ok (.tuple #[.iface 101 v, .bool true]) w := run_typeAssert_hasB Tryd.underlying137 (by kernel_rfl) v xT w
end Go.Proofs.YtepjinaomedecaaDoor
