/- Ways and costs. -/
import Derived.Test.YtepjinaomedecaaDoorGridF
namespace Go.Proofs.YtepjinaomedecaaDoor
set_option linter.unusedVariables false
set_option linter.unusedSimpArgs false

/-- So many steps from a source that is open. -/
inductive Wk (W : Int) (S : ByteArray) (src : List Int) : Nat → Int → Prop where
  | src {x : Int} (h : x ∈ src) (ho : opn S x = true) : Wk W S src 0 x
  | step {k : Nat} {y x : Int} (h : Wk W S src k y) (hn : x ∈ nearL W S y) : Wk W S src (k + 1) x
theorem Wk.opn {W : Int} {S : ByteArray} {src : List Int} {k : Nat} {x : Int} (h : Wk W S src k x) : opn S x = true := by
  cases h with
  | src _ h => exact h
  | step _ h => exact near_opn h

/-- A cell's cost. -/
def CostOK (W : Int) (S : ByteArray) (src : List Int) (step : Int) (x : Int) (c : Int) : Prop :=
  (c = -1 ∧ ∀ k, ¬ Wk W S src k x) ∨ ∃ k : Nat, Wk W S src k x ∧ (∀ j, Wk W S src j x → k ≤ j) ∧ c = step * k
def Cst (W : Int) (S : ByteArray) (src : List Int) (step : Int) (out : List Int) : Prop :=
  out.length = S.size ∧ ∀ i : Nat, i < S.size → CostOK W S src step i (out.getD i 0)
theorem CostOK.uniq {W : Int} {S : ByteArray} {src : List Int} {step x c c' : Int} (h : CostOK W S src step x c) (h' : CostOK W S src step x c') : c = c' := by
  rcases h with ⟨rfl, h⟩ | ⟨k, h1, h2, rfl⟩ <;> rcases h' with ⟨rfl, h'⟩ | ⟨k', h1', h2', rfl⟩
  · rfl
  · exact absurd h1' (h k')
  · exact absurd h1 (h' k)
  · rw [Nat.le_antisymm (h2 _ h1') (h2' _ h1)]
theorem Cst.uniq {W : Int} {S : ByteArray} {src : List Int} {step : Int} {out out' : List Int} (h : Cst W S src step out) (h' : Cst W S src step out') : out = out' := by
  apply List.ext_getElem?
  intro i
  rcases Nat.lt_or_ge i S.size with hi | hi
  · have := (h.2 i hi).uniq (h'.2 i hi)
    rw [List.getD_eq_getElem?_getD, List.getD_eq_getElem?_getD, List.getElem?_eq_getElem (by rw [h.1]; exact hi), List.getElem?_eq_getElem (by rw [h'.1]; exact hi)] at this
    rw [List.getElem?_eq_getElem (by rw [h.1]; exact hi), List.getElem?_eq_getElem (by rw [h'.1]; exact hi)]
    simpa using this
  · rw [List.getElem?_eq_none (by rw [h.1]; exact hi), List.getElem?_eq_none (by rw [h'.1]; exact hi)]

/-- How many aren't final. -/
def unf (out : List Int) : Nat := out.countP fun c => decide (c < 0)
theorem unf_set {out : List Int} {i : Nat} {c : Int} (hi : i < out.length) (h0 : out.getD i 0 < 0) (hc : 0 ≤ c) : unf (out.set i c) + 1 = unf out := by
  unfold unf
  have e : out.getD i 0 = out[i] := by rw [List.getD_eq_getElem?_getD, List.getElem?_eq_getElem hi]; rfl
  rw [e] at h0
  have hpos : 0 < out.countP fun c => decide (c < 0) := List.countP_pos_iff.2 ⟨out[i], List.getElem_mem hi, by simpa using h0⟩
  rw [List.countP_set hi]
  simp only [h0, decide_true, if_true]
  rw [if_neg (by simp; omega)]
  omega
end Go.Proofs.YtepjinaomedecaaDoor
