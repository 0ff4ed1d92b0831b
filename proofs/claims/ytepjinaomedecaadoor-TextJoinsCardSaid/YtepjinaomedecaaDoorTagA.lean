/- Errors with a tag. -/
import Derived.Test.YtepjinaomedecaaDoorCode
import Derived.Test.YtepjinaomedecaaDoorBase4
namespace Go.Proofs.YtepjinaomedecaaDoor
open Go.Mini
open Go.Proofs.YtepjinaomedecaaDoor.Code
set_option linter.unusedVariables false
set_option linter.unusedSimpArgs false
set_option linter.ambiguousOpen false
attribute [local irreducible] mx ml mld mstep MCalls Ex.thn Ex.inb
variable {E : World → Prop}

/-- An error with a tag. -/
def TagE (σ : H) (v : Value) (name : ByteArray) (n : Int) : Prop := ∃ id, v = .iface 101 (.pointer (some ⟨id, 0, none⟩)) ∧ σ.get id = .cells 0 [.string name, .iface 66 (.int .i64 n)]
theorem TagE.of_ext {σ τ : H} {v : Value} {name : ByteArray} {n : Int} (h : TagE σ v name n) (e : Ext σ τ) : TagE τ v name n := by
  obtain ⟨id, h1, h2⟩ := h; exact ⟨id, h1, e.cells h2⟩
theorem tag_c (name : ByteArray) (n : Int) (σ : H) : MCalls E Tryd.prog 31 [.string name, .iface 66 (.int .i64 n)] σ (fun v τ => TagE τ v name n ∧ Ext σ τ) := by
  refine mcalls_of fn31 (by simp) ?_
  unfold c31 r31
  refine stepR0 ?_
  exact fin1 ⟨⟨σ.size, Sd0, H.get_push_self _ _⟩, Ext.push _ _⟩
theorem tagnil_c (name : ByteArray) (σ : H) : MCalls E Tryd.prog 31 [.string name, .nilIface] σ (fun v τ => v = .nilIface ∧ τ = σ) := by
  refine mcalls_of fn31 (by simp) ?_
  unfold c31 r31
  refine stepR0 ?_
  exact fin1 ⟨Sd0, rfl⟩

end Go.Proofs.YtepjinaomedecaaDoor
