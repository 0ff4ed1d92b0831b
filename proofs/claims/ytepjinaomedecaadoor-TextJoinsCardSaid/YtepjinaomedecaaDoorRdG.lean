/- Slices whose elements are of several cells. -/
import Derived.Test.YtepjinaomedecaaDoorBase4
namespace Go.Mini
set_option linter.unusedVariables false
set_option linter.unusedSimpArgs false
/-- A slice whose elements are of k cells. -/
inductive RdN (σ : H) (k : Nat) : Value → List (List Value) → Prop
  | nil : RdN σ k (.slice none 0 0) []
  | mk {id n cap : Nat} {L : List (List Value)} (hl : L.length = n) (hr : σ.row id 0 (n * k) = some L.flatten) (h : ∀ i (hi : i < L.length), σ.row id (i * k) k = some L[i]) : RdN σ k (.slice (some ⟨id, 0, none⟩) n cap) L
theorem RdN.of_ext {σ τ : H} {k : Nat} {v : Value} {L : List (List Value)} (h : RdN σ k v L) (e : Ext σ τ) : RdN τ k v L := by
  cases h with
  | nil => exact .nil
  | mk hl hr h => exact .mk hl (rowE e hr) fun i hi => rowE e (h i hi)
theorem RdN.len {σ : H} {k : Nat} {v : Value} {L : List (List Value)} (h : RdN σ k v L) : ∃ p cap, v = .slice p L.length cap ∧ (L ≠ [] → ∃ id, p = some ⟨id, 0, none⟩ ∧ σ.row id 0 (L.length * k) = some L.flatten ∧ ∀ i (hi : i < L.length), σ.row id (i * k) k = some L[i]) := by
  cases h with
  | nil => exact ⟨none, 0, rfl, fun h => absurd rfl h⟩
  | mk hl hr h => subst hl; exact ⟨_, _, rfl, fun _ => ⟨_, rfl, hr, h⟩⟩
theorem flat_row {k : Nat} : ∀ {L : List (List Value)}, (∀ l ∈ L, l.length = k) → ∀ i (hi : i < L.length), (L.flatten.drop (i * k)).take k = L[i]
  | l :: L, h, 0, _ => by
    have := h l (by simp)
    simp only [List.flatten_cons, Nat.zero_mul, List.drop_zero, List.getElem_cons_zero]
    rw [List.take_append_of_le_length (by omega), List.take_of_length_le (by omega)]
  | l :: L, h, i + 1, hi => by
    have hl := h l (by simp)
    have hi' : i < L.length := by simpa using hi
    have := flat_row (fun l hl => h l (by simp [hl])) i hi'
    rw [List.getElem_cons_succ, ← this, List.flatten_cons, show (i + 1) * k = k + i * k by rw [Nat.add_mul]; omega, ← List.drop_drop]
    congr 2
    rw [List.drop_append_of_le_length (by omega), List.drop_of_length_le (by omega)]; rfl
theorem flat_len {k : Nat} : ∀ {L : List (List Value)}, (∀ l ∈ L, l.length = k) → L.flatten.length = L.length * k
  | [], _ => by simp
  | l :: L, h => by
    have := flat_len (L := L) fun l hl => h l (by simp [hl])
    rw [List.flatten_cons, List.length_append, this, h l (by simp), List.length_cons, Nat.add_mul]; omega
end Go.Mini
