/- The witness where the listed variables hold the handle errors.errorType. -/
import Derived.Test.YtepjinaomedecaaDoorRow
import Derived.LaidHandle
import Derived.Test.YtepjinaomedecaaDoorErrC
namespace Go.Mini
set_option linter.unusedVariables false
set_option linter.unusedSimpArgs false
noncomputable def wHandle (P : Program) (os : Os) (g : Nat) (v : Value) : World :=
  let w0 := World.holding P os ⟨#[], #[], []⟩
  { w0 with heap := w0.heap.modify g fun
      | .cells _ t frozen => .cells #[v] t frozen
      | o => o }
noncomputable def laidAllH (P : Program) (os : Os) (g : Nat) (v : Value) (laid : List (String × DataW Unit)) : World := (wHandle P os g v).layVars P (laid.filter fun x => x.2.handleName?.isNone)
theorem laidAllH_os (P : Program) (os : Os) (g : Nat) (v : Value) (laid : List (String × DataW Unit)) : (laidAllH P os g v laid).os = os := World.layVars_os _ _ _
theorem laidMet_laidAllH {P : Program} {os : Os} {g : Nat} {v : Value} {laid : List (String × DataW Unit)} (args : Array Value)
    (hf : (wHandle P os g v).layFits P (laid.filter fun x => x.2.handleName?.isNone) [] = true)
    (hi : (wHandle P os g v).layIfaces P (laid.filter fun x => x.2.handleName?.isNone) (laidAllH P os g v laid) = true)
    (hh : (laid.filter fun x => x.2.handleName?.isSome).all (handleAtB P ((laidAllH P os g v laid).forCall (fun _ _ => 0) ⟨#[], args, []⟩).memory) = true) :
    laidMetH P laid ((laidAllH P os g v laid).forCall (fun _ _ => 0) ⟨#[], args, []⟩).memory := by
  refine laidMetH_of_parts ?_ hh
  generalize hl : (laid.filter fun x => x.2.handleName?.isNone) = pl at hf hi
  have e1 : (pl.filter fun x => (pl.map (·.1)).contains x.1) = pl := List.filter_eq_self.2 fun x hx => List.contains_iff_mem.2 (List.mem_map.2 ⟨x, hx, rfl⟩)
  have e2 : (pl.filter fun x => !(pl.map (·.1)).contains x.1) = [] := List.filter_eq_nil_iff.2 fun x hx => by rw [List.contains_iff_mem.2 (List.mem_map.2 ⟨x, hx, rfl⟩)]; simp
  have h : laidMet P pl (laidAllH P os g v laid) := laidMet_layVars (w0 := wHandle P os g v) (pl.map (·.1)) [] (by rw [e1]; unfold laidAllH; rw [hl]) (by rw [e1]; exact hf) (by rw [e1]; exact hi) (by rw [e2]; exact LaidIn.none)
  exact h.of_heap (by simp [World.memory, World.forCall, Input.heap])
end Go.Mini
namespace Go.Proofs.YtepjinaomedecaaDoor
open Go.Mini
theorem et_global : Tryd.prog.globalNamed "errors.errorType" = some 0 := by kernel_rfl
theorem et_rt : (Tryd.prog.cutTypes.find? (·.1 == "internal/reflectlite.rtype")).map (·.2) = some 129 := by kernel_rfl
theorem et_size : Tryd.prog.types.size = 222 := by kernel_rfl
theorem et_oneRow : ((List.range 222).filter fun t => Tryd.prog.rowNamed t [101, 114, 114, 111, 114]) = [26] := by kernel_rfl
/-- What the listed variables say of errors.errorType. -/
theorem errType_of_laid {l : List (String × DataW Unit)} {more : List (String × DataW Unit)} (hl : (l.filter fun x => x.2.handleName?.isSome) = ("errors.errorType", Rows.laid_errors_errorType) :: more) {W : World} (h : laidMetH Tryd.prog l W) : ErrType W := by
  unfold laidMetH at h
  rw [hl] at h
  have h2 := h.2 _ (List.mem_cons_self ..)
  obtain ⟨name, u, ty, e1, e2, e3, e4, e5⟩ := h2
  have en : name = [101, 114, 114, 111, 114] := (Option.some.inj e1).symm
  subst en
  obtain rfl := Option.some.inj (et_rt.symm.trans e2)
  have hm : ty ∈ (List.range 222).filter fun t => Tryd.prog.rowNamed t [101, 114, 114, 111, 114] := List.mem_filter.2 ⟨List.mem_range.2 (by rw [← et_size]; exact e3), e4⟩
  rw [et_oneRow] at hm
  obtain rfl := List.mem_singleton.1 hm
  have hh : typeHandle Tryd.prog 26 = .pointer (some ⟨9, 26, none⟩) := by kernel_rfl
  rw [hh] at e5
  unfold ErrType
  simpa using World.var?_cell et_global e5 0
end Go.Proofs.YtepjinaomedecaaDoor
