/- The plain law of the heap: up and down keep its order; the first is the least. -/
import Derived.Test.YtcjogomiiinkfaaDoorHeapB
namespace Go.Proofs.YtcjogomiiinkfaaDoor
set_option linter.unusedVariables false
set_option linter.unusedSimpArgs false

theorem lt_iff {a b : Due} : lt a b = true ↔ a.1 < b.1 ∨ (a.1 = b.1 ∧ a.2 < b.2) := by
  unfold lt
  by_cases h : a.1 = b.1
  · rw [if_neg (by simpa using h)]; simp only [decide_eq_true_eq]; omega
  · rw [if_pos h]; simp only [decide_eq_true_eq]; omega
def le (a b : Due) : Prop := a.1 < b.1 ∨ (a.1 = b.1 ∧ a.2 ≤ b.2)
theorem le_of_not {a b : Due} (h : ¬ lt b a = true) : le a b := by rw [lt_iff] at h; unfold le; omega
theorem le_of_lt {a b : Due} (h : lt a b = true) : le a b := by rw [lt_iff] at h; unfold le; omega
theorem le.trans {a b c : Due} (h : le a b) (k : le b c) : le a c := by unfold le at *; omega
theorem le.refl (a : Due) : le a a := by unfold le; omega
theorem not_lt_of_le {a b : Due} (h : le a b) : lt b a = false := by
  cases e : lt b a
  · rfl
  · rw [lt_iff] at e; unfold le at h; omega

abbrev par (i : Nat) : Nat := (i - 1) / 2
def HeapOK (L : List Due) : Prop := ∀ j, 0 < j → j < L.length → le (dv L (par j)) (dv L j)
theorem dv_swp {L : List Due} {i k : Nat} (hi : i < L.length) (hk : k < L.length) (j : Nat) : dv (swp L i k) j = if j = k then dv L i else if j = i then dv L k else dv L j := by
  unfold swp dv
  simp only [List.getD_eq_getElem?_getD, List.getElem?_set, List.length_set]
  by_cases h1 : j = k
  · subst h1; simp [hk]
  · rw [if_neg (Ne.symm h1), if_neg h1]
    by_cases h2 : j = i
    · subst h2; simp [hi]
    · rw [if_neg (Ne.symm h2), if_neg h2]
theorem swp_perm {L : List Due} {i k : Nat} (hi : i < L.length) (hk : k < L.length) : (swp L i k).Perm L := by
  have := List.set_set_perm hi hk
  unfold swp
  rw [List.getD_eq_getElem?_getD, List.getD_eq_getElem?_getD, List.getElem?_eq_getElem hi, List.getElem?_eq_getElem hk]
  exact this

theorem up_ok : ∀ (i : Nat) (L : List Due), i < L.length → (∀ j, 0 < j → j < L.length → j ≠ i → le (dv L (par j)) (dv L j)) → (∀ j, 0 < j → j < L.length → par j = i → 0 < i → le (dv L (par i)) (dv L j)) →
    HeapOK (up L i) ∧ (up L i).Perm L := by
  intro i
  induction i using Nat.strongRecOn with
  | ind i ih =>
    intro L hi h1 h2
    rw [up]
    by_cases hc : 0 < i ∧ lt (dv L i) (dv L (par i)) = true
    · rw [dif_pos hc]
      have hp : par i < i := by unfold par; omega
      have hpl : par i < L.length := by omega
      have D := dv_swp (L := L) hi hpl
      obtain ⟨a, b⟩ := ih (par i) hp (swp L i (par i)) (by rw [swp_len]; exact hpl) (fun j j0 jl jne => by
        rw [swp_len] at jl
        rw [D j, D (par j), if_neg jne]
        by_cases e1 : j = i
        · subst e1; rw [if_pos rfl, if_pos rfl]; exact le_of_lt hc.2
        · rw [if_neg e1]
          by_cases e2 : par j = par i
          · rw [if_pos e2]
            have := h1 j j0 jl e1
            rw [e2] at this
            exact (le_of_lt hc.2).trans this
          · rw [if_neg e2]
            by_cases e3 : par j = i
            · rw [if_pos e3]; exact h2 j j0 jl e3 hc.1
            · rw [if_neg e3]; exact h1 j j0 jl e1) (fun j j0 jl je p0 => by
        rw [swp_len] at jl
        have hpp : par (par i) < par i := by unfold par at *; omega
        rw [D j, D (par (par i)), if_neg (by omega), if_neg (by omega), if_neg (by unfold par at *; omega)]
        have hpi := h1 (par i) p0 hpl (by omega)
        by_cases e1 : j = i
        · subst e1; rw [if_pos rfl]; exact hpi
        · rw [if_neg e1]
          have := h1 j j0 jl e1
          rw [je] at this
          exact hpi.trans this)
      exact ⟨a, b.trans (swp_perm hi hpl)⟩
    · rw [dif_neg hc]
      refine ⟨fun j j0 jl => ?_, .refl _⟩
      by_cases e : j = i
      · subst e
        exact le_of_not fun h => hc ⟨j0, h⟩
      · exact h1 j j0 jl e
theorem push_ok {L : List Due} (h : HeapOK L) (x : Due) : HeapOK (up (L ++ [x]) L.length) ∧ (up (L ++ [x]) L.length).Perm (L ++ [x]) := by
  have D : ∀ j, j < L.length → dv (L ++ [x]) j = dv L j := fun j hj => by
    unfold dv; rw [List.getD_eq_getElem?_getD, List.getElem?_append_left hj, List.getD_eq_getElem?_getD]
  refine up_ok L.length (L ++ [x]) (by simp) (fun j j0 jl jne => ?_) (fun j j0 jl je l0 => ?_)
  · simp only [List.length_append, List.length_cons, List.length_nil] at jl
    rw [D j (by omega), D (par j) (by unfold par; omega)]
    exact h j j0 (by omega)
  · simp only [List.length_append, List.length_cons, List.length_nil] at jl
    unfold par at je; omega

theorem kid_spec {L : List Due} {i : Nat} (h : 2 * i + 1 < L.length) : kid L i < L.length ∧ par (kid L i) = i ∧ i < kid L i ∧ ∀ j, 0 < j → j < L.length → par j = i → le (dv L (kid L i)) (dv L j) := by
  unfold kid
  split
  · rename_i hc
    refine ⟨by omega, by unfold par; omega, by omega, fun j j0 jl je => ?_⟩
    have : j = 2 * i + 1 ∨ j = 2 * i + 2 := by unfold par at je; omega
    rcases this with rfl | rfl
    · exact le_of_lt hc.2
    · exact le.refl _
  · rename_i hc
    refine ⟨h, by unfold par; omega, by omega, fun j j0 jl je => ?_⟩
    have : j = 2 * i + 1 ∨ j = 2 * i + 2 := by unfold par at je; omega
    rcases this with rfl | rfl
    · exact le.refl _
    · exact le_of_not fun h2 => hc ⟨jl, h2⟩
theorem down_ok : ∀ (n : Nat) (i : Nat) (L : List Due), L.length - i = n → (∀ j, 0 < j → j < L.length → par j ≠ i → le (dv L (par j)) (dv L j)) → (∀ j, 0 < j → j < L.length → par j = i → 0 < i → le (dv L (par i)) (dv L j)) →
    HeapOK (down L i) ∧ (down L i).Perm L := by
  intro n
  induction n using Nat.strongRecOn with
  | ind n ih =>
    intro i L hn h1 h2
    rw [down]
    by_cases hc : 2 * i + 1 < L.length ∧ lt (dv L (kid L i)) (dv L i) = true
    · rw [dif_pos hc]
      obtain ⟨k1, k2, k3, k4⟩ := kid_spec hc.1
      have hi : i < L.length := by omega
      generalize kid L i = k at hc k1 k2 k3 k4
      have D := dv_swp (L := L) hi k1
      obtain ⟨a, b⟩ := ih (L.length - k) (by omega) k (swp L i k) (by rw [swp_len]) (fun j j0 jl jne => by
        rw [swp_len] at jl
        rw [D j, D (par j), if_neg jne]
        by_cases e1 : j = k
        · subst e1; rw [if_pos rfl, k2, if_pos rfl]; exact le_of_lt hc.2
        · rw [if_neg e1]
          by_cases e2 : j = i
          · subst e2; rw [if_pos rfl, if_neg (by unfold par; omega)]; exact h2 k (by omega) k1 k2 j0
          · rw [if_neg e2]
            by_cases e3 : par j = i
            · rw [if_pos e3]; exact k4 j j0 jl e3
            · rw [if_neg e3]; exact h1 j j0 jl e3) (fun j j0 jl je k0 => by
        rw [swp_len] at jl
        have hjk : k < j := by unfold par at je; omega
        rw [D j, D (par k), k2, if_neg (by omega), if_pos rfl, if_neg (by omega), if_neg (by omega)]
        have := h1 j j0 jl (by rw [je]; omega)
        rwa [je] at this)
      exact ⟨a, b.trans (swp_perm hi k1)⟩
    · rw [dif_neg hc]
      refine ⟨fun j j0 jl => ?_, .refl _⟩
      by_cases e : par j = i
      · have hl : 2 * i + 1 < L.length := by unfold par at e; omega
        obtain ⟨k1, k2, k3, k4⟩ := kid_spec hl
        rw [e]
        exact (le_of_not fun h => hc ⟨hl, h⟩).trans (k4 j j0 jl e)
      · exact h1 j j0 jl e
theorem first_least {L : List Due} (h : HeapOK L) : ∀ (n i : Nat), i ≤ n → i < L.length → le (dv L 0) (dv L i) := by
  intro n
  induction n with
  | zero => intro i hi _; rw [Nat.le_zero.1 hi]; exact le.refl _
  | succ n ih =>
    intro i hi hl
    by_cases h0 : i = 0
    · subst h0; exact le.refl _
    · exact (ih (par i) (by unfold par; omega) (by unfold par; omega)).trans (h i (by omega) hl)
theorem least_mem {L : List Due} (h : HeapOK L) {y : Due} (hy : y ∈ L) : le (dv L 0) y := by
  obtain ⟨i, hi, rfl⟩ := List.getElem_of_mem hy
  have := first_least h i i (Nat.le_refl _) hi
  unfold dv at this
  rwa [List.getD_eq_getElem?_getD (i := i), List.getElem?_eq_getElem hi] at this
/-- What is left behind the least one, ahead of the order's mending. -/
def popRest (L : List Due) : List Due := (L.set 0 (dv L (L.length - 1))).take (L.length - 1)
theorem popRest_perm {L : List Due} (hne : 0 < L.length) : (dv L 0 :: popRest L).Perm L := by
  cases L with
  | nil => exact absurd hne (Nat.lt_irrefl _)
  | cons a t =>
    rcases List.eq_nil_or_concat t with rfl | ⟨m, z, rfl⟩
    · exact .refl _
    · have e : popRest (a :: (m.concat z)) = z :: m := by
        simp [popRest, dv]
      rw [e, List.concat_eq_append]
      show (a :: z :: m).Perm (a :: (m ++ [z]))
      exact .cons a (List.perm_append_singleton z m).symm
theorem pop_ok {L : List Due} (h : HeapOK L) (hne : 0 < L.length) : HeapOK (down (popRest L) 0) ∧ (dv L 0 :: down (popRest L) 0).Perm L := by
  have hl : (popRest L).length = L.length - 1 := by simp [popRest]
  have D : ∀ j, 0 < j → j < L.length - 1 → dv (popRest L) j = dv L j := fun j j0 hj => by
    unfold popRest dv
    rw [List.getD_eq_getElem?_getD, List.getElem?_take, if_pos hj, List.getElem?_set_ne (by omega), List.getD_eq_getElem?_getD]
  obtain ⟨a, b⟩ := down_ok _ 0 (popRest L) rfl (fun j j0 jl jp => by
    rw [hl] at jl
    rw [D j j0 jl, D (par j) (by omega) (by unfold par; omega)]
    exact h j j0 (by omega)) (fun j j0 jl je h0 => absurd h0 (Nat.lt_irrefl _))
  exact ⟨a, (b.cons _).trans (popRest_perm hne)⟩
end Go.Proofs.YtcjogomiiinkfaaDoor
