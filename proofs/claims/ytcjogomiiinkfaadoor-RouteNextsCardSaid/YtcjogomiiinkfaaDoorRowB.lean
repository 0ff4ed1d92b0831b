/- Slices of truths that come in: objects that are only read. -/
import Derived.Test.YtcjogomiiinkfaaDoorRowS
import Derived.Deep.Grids
namespace Go.Mini
open Go.ChangeShapes Go.WideShapes Go.ChangeAt Go.RowKit
set_option linter.unusedVariables false
set_option linter.unusedSimpArgs false
/-- A slice of truths that came in: an object for it. -/
theorem sliceB_arg {P : Program} {w : World} {t e : TypeId} {v : Value} {H : Type} {enc : TypeId × Value → H} {d : DataW H} {ps : List MemPlace} {μ : Nat → Blk} {σ : Mini.H} (ht : P.underlying t = some (.slice e)) (he : P.underlying e = some .bool) (hc : P.cellsOf e = 1)
    (hval : Value.okWide P w .any 0 t v) (hd : DataW.Trod enc P w 0 (fun _ => true) true t v d ps) (hs : Sim w.heap.size w μ σ w) (hro : AllRo σ) :
    ∃ (l : List Bool) (v0 : Value) (σ' : Mini.H) (μ' : Nat → Blk), AllRo σ' ∧ Sim w.heap.size w μ' σ' w ∧ VR μ' σ'.size v0 v ∧ Rd σ' v0 (l.map Value.bool) ∧ Ext σ σ' ∧ Agr σ.size μ μ' := by
  obtain ⟨a, len, cap, rfl⟩ := okWide_slice ht hval
  obtain ⟨fuel, hf⟩ := hd
  rcases Go.Deep.open_bools ht he hc hf with ⟨hcs, _⟩ | ⟨x, ln, cp, Z, hcs, _, hl, hm, _, hcell⟩
  · simp only [Value.cells, List.cons.injEq, and_true] at hcs
    obtain ⟨rfl, rfl, rfl⟩ : a = none ∧ len = 0 ∧ cap = 0 := by simpa using hcs
    exact ⟨[], .slice none 0 0, σ, μ, hro, hs, .nilSlice, .nil, .refl _, .refl _ _⟩
  · obtain ⟨rfl, rfl, rfl⟩ : a = some x ∧ len = ln ∧ cap = cp := by simpa [Value.cells] using hcs
    have hok : w.has P .any 0 x e cap := by
      have : Cell.okWide P w .any 0 t (.slice (some x) len cap) := by unfold Value.okWide at hval; rw [ht] at hval; exact hval
      unfold Cell.okWide Cell.ok at this
      rw [ht] at this
      exact this.2.2
    obtain ⟨_, hspot, row, cells, hsh, _⟩ := hok
    obtain ⟨b, off, spot⟩ := x
    dsimp only at hspot
    subst hspot
    unfold World.shape? at hsh
    split at hsh
    · rename_i c el fz hb
      have hb : w.heap[b]? = some (.cells c el fz) := hb
      have hcr : CellsR μ σ.size (((List.range len).map Z).map Value.bool) c off := fun j u hu => by
        rw [List.getElem?_map] at hu
        have hj : j < len := by
          apply Classical.byContradiction
          intro hn
          rw [List.getElem?_eq_none (by simp; omega)] at hu; cases hu
        rw [List.getElem?_map, List.getElem?_range hj] at hu
        simp only [Option.map_some, Option.some.injEq] at hu
        have h1 := hcell j (by omega)
        rw [add_plain] at h1
        unfold World.cell? at h1
        simp only [hb, Option.isSome_none, Bool.false_eq_true, if_false] at h1
        exact ⟨_, h1, by rw [← hu]; exact .bool _⟩
      have hlen : (((List.range len).map Z).map Value.bool).length = len := by simp
      refine ⟨(List.range len).map Z, .slice (some ⟨σ.size, 0, none⟩) len len, σ.push (.ro (((List.range len).map Z).map Value.bool)), setMu μ σ.size ⟨b, off, 0, 0, false⟩, hro.push _, hs.pushRo hro hb hcr, ?_, ?_, Ext.push _ _, .setMu μ _⟩
      · have := VR.slice (μ := setMu μ σ.size ⟨b, off, 0, 0, false⟩) (n := (σ.push (.ro (((List.range len).map Z).map Value.bool))).size) (id := σ.size) (off := 0) (len := len) (cap := len) (cap' := cap) (o' := off) (by simp) (Nat.le_refl _) hl (fun _ => by rw [setMu_self]; simp) (fun h => by rw [setMu_self] at h; simp at h) (fun h => by rw [setMu_self] at h; simp at h)
        rw [setMu_self] at this
        exact this
      · have hrow : (σ.push (.ro (((List.range len).map Z).map Value.bool))).row σ.size 0 (((List.range len).map Z).map Value.bool).length = some (((List.range len).map Z).map Value.bool) := row_ro (_root_.Go.Mini.H.get_push_self _ _) (rowAll rfl)
        have := Rd.mk (cap := len) hrow
        rwa [hlen] at this
    · cases hsh
end Go.Mini
