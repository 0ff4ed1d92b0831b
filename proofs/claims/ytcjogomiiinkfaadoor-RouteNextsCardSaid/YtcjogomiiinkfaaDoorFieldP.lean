/- The plain law of the field: what is taken off least first has the least cost. -/
import Derived.Test.YtcjogomiiinkfaaDoorHeapE
import Derived.Test.YtcjogomiiinkfaaDoorGridF
namespace Go.Proofs.YtcjogomiiinkfaaDoor
set_option linter.unusedVariables false
set_option linter.unusedSimpArgs false

/-- So many steps from a source that is open. -/
inductive Wk (W : Int) (S : ByteArray) (src : List Int) : Nat → Int → Prop where
  | src {x : Int} (h : x ∈ src) (ho : opn S x = true) : Wk W S src 0 x
  | step {k : Nat} {y x : Int} (h : Wk W S src k y) (hn : x ∈ nearL W S y) : Wk W S src (k + 1) x
theorem Wk.opn {W : Int} {S : ByteArray} {src : List Int} {k : Nat} {x : Int} (h : Wk W S src k x) : opn S x = true := by
  cases h with
  | src _ h => exact h
  | step _ h => exact near_opn h

/-- A cell's cost. -/
def CostOK (W : Int) (S : ByteArray) (src : List Int) (step : Int) (x : Int) (c : Int) : Prop :=
  (c = -1 ∧ ∀ k, ¬ Wk W S src k x) ∨ ∃ k : Nat, Wk W S src k x ∧ (∀ j, Wk W S src j x → k ≤ j) ∧ c = step * k
def Cst (W : Int) (S : ByteArray) (src : List Int) (step : Int) (out : List Int) : Prop :=
  out.length = S.size ∧ ∀ i : Nat, i < S.size → CostOK W S src step i (out.getD i 0)
theorem CostOK.uniq {W : Int} {S : ByteArray} {src : List Int} {step x c c' : Int} (h : CostOK W S src step x c) (h' : CostOK W S src step x c') : c = c' := by
  rcases h with ⟨rfl, h⟩ | ⟨k, h1, h2, rfl⟩ <;> rcases h' with ⟨rfl, h'⟩ | ⟨k', h1', h2', rfl⟩
  · rfl
  · exact absurd h1' (h k')
  · exact absurd h1 (h' k)
  · rw [Nat.le_antisymm (h2 _ h1') (h2' _ h1)]
theorem Cst.uniq {W : Int} {S : ByteArray} {src : List Int} {step : Int} {out out' : List Int} (h : Cst W S src step out) (h' : Cst W S src step out') : out = out' := by
  apply List.ext_getElem?
  intro i
  rcases Nat.lt_or_ge i S.size with hi | hi
  · have := (h.2 i hi).uniq (h'.2 i hi)
    rw [List.getD_eq_getElem?_getD, List.getD_eq_getElem?_getD, List.getElem?_eq_getElem (by rw [h.1]; exact hi), List.getElem?_eq_getElem (by rw [h'.1]; exact hi)] at this
    rw [List.getElem?_eq_getElem (by rw [h.1]; exact hi), List.getElem?_eq_getElem (by rw [h'.1]; exact hi)]
    simpa using this
  · rw [List.getElem?_eq_none (by rw [h.1]; exact hi), List.getElem?_eq_none (by rw [h'.1]; exact hi)]

/-- What holds between two items that are taken. -/
structure DI (W : Int) (S : ByteArray) (src : List Int) (step : Int) (out : List Int) (M : List Due) : Prop where
  len : out.length = S.size
  fin : ∀ i : Nat, i < S.size → out.getD i 0 = -1 ∨ ∃ k : Nat, Wk W S src k i ∧ (∀ j, Wk W S src j i → k ≤ j) ∧ out.getD i 0 = step * k
  mem : ∀ p ∈ M, ∃ k : Nat, Wk W S src k p.2 ∧ p.1 = step * k
  srcs : ∀ s ∈ src, opn S s = true → 0 ≤ out.getD s.toNat 0 ∨ ((0, s) : Due) ∈ M
  near : ∀ i : Nat, i < S.size → 0 ≤ out.getD i 0 → ∀ n ∈ nearL W S i, 0 ≤ out.getD n.toNat 0 ∨ ((out.getD i 0 + step, n) : Due) ∈ M
section
variable {W : Int} {S : ByteArray} {src : List Int} {step : Int} {out : List Int} {M M' : List Due} {p : Due}
theorem DI.perm (h : DI W S src step out M) (hp : ∀ p, p ∈ M ↔ p ∈ M') : DI W S src step out M' :=
  ⟨h.len, h.fin, fun p hm => h.mem p ((hp p).2 hm), fun s hs ho => (h.srcs s hs ho).imp_right (hp _).1, fun i hi h0 n hn => (h.near i hi h0 n hn).imp_right (hp _).1⟩
/-- What isn't final yet has an item no dearer. -/
theorem DI.front (h : DI W S src step out M) (h1 : 1 ≤ step) : ∀ {k : Nat} {x : Int}, Wk W S src k x → out.getD x.toNat 0 < 0 → ∃ p ∈ M, p.1 ≤ step * k := by
  intro k x hw
  induction hw with
  | src hx ho =>
    intro hn
    rcases h.srcs _ hx ho with h2 | h2
    · omega
    · exact ⟨_, h2, by simp⟩
  | @step k y x hw hx ih =>
    intro hn
    have hy := opn_lt hw.opn
    have hyi : ((y.toNat : Nat) : Int) = y := Int.toNat_of_nonneg hy.1
    have hs : step * ((k : Nat) : Int) ≤ step * ((k + 1 : Nat) : Int) := Int.mul_le_mul_of_nonneg_left (by omega) (by omega)
    by_cases hf : out.getD y.toNat 0 < 0
    · obtain ⟨p, hp, hle⟩ := ih hf
      exact ⟨p, hp, by omega⟩
    · rcases h.near y.toNat (by omega) (by omega) x (by rw [hyi]; exact hx) with h2 | h2
      · omega
      · refine ⟨_, h2, ?_⟩
        rcases h.fin y.toNat (by omega) with h3 | ⟨k', h3, h4, h5⟩
        · omega
        · rw [hyi] at h3 h4
          have hk := h4 k hw
          have : step * (k' : Int) ≤ step * (k : Int) := Int.mul_le_mul_of_nonneg_left (by omega) (by omega)
          have e : step * ((k + 1 : Nat) : Int) = step * (k : Int) + step := by rw [Int.natCast_add, Int.mul_add]; simp
          rw [h5, e]; simp only; omega
theorem DI.done (h : DI W S src step out []) (h1 : 1 ≤ step) : Cst W S src step out := by
  refine ⟨h.len, fun i hi => ?_⟩
  rcases h.fin i hi with h2 | h2
  · refine .inl ⟨h2, fun k hw => ?_⟩
    obtain ⟨p, hp, _⟩ := h.front h1 hw (by simp only [Int.toNat_natCast]; omega)
    cases hp
  · exact .inr h2
/-- An item of a cell that is final goes. -/
theorem DI.skip (h : DI W S src step out (p :: M)) (hf : 0 ≤ out.getD p.2.toNat 0) : DI W S src step out M := by
  refine ⟨h.len, h.fin, fun q hq => h.mem q (List.mem_cons_of_mem _ hq), fun s hs ho => ?_, fun i hi h0 n hn => ?_⟩
  · rcases h.srcs s hs ho with h2 | h2
    · exact .inl h2
    · rcases List.mem_cons.1 h2 with rfl | h3
      · exact .inl hf
      · exact .inr h3
  · rcases h.near i hi h0 n hn with h2 | h2
    · exact .inl h2
    · rcases List.mem_cons.1 h2 with rfl | h3
      · exact .inl hf
      · exact .inr h3
/-- The least item makes its cell final; its neighbours come in. -/
theorem DI.take (h : DI W S src step out (p :: M)) (h1 : 1 ≤ step) (hl : ∀ q ∈ M, p.1 ≤ q.1) (hf : out.getD p.2.toNat 0 < 0) :
    DI W S src step (out.set p.2.toNat p.1) (M ++ (nearL W S p.2).map fun n => (p.1 + step, n)) := by
  obtain ⟨k, hw, hk⟩ := h.mem p List.mem_cons_self
  have hx := opn_lt hw.opn
  have hxi : ((p.2.toNat : Nat) : Int) = p.2 := Int.toNat_of_nonneg hx.1
  have hlt : p.2.toNat < out.length := by rw [h.len]; omega
  have hmin : ∀ j, Wk W S src j p.2 → k ≤ j := fun j hj => by
    obtain ⟨q, hq, hle⟩ := h.front h1 hj hf
    have hpq : p.1 ≤ q.1 := by
      rcases List.mem_cons.1 hq with rfl | hq
      · exact Int.le_refl _
      · exact hl q hq
    have : step * (k : Int) ≤ step * (j : Int) := by omega
    have := Int.le_of_mul_le_mul_left this (by omega)
    omega
  have hc0 : 0 ≤ p.1 := by rw [hk]; exact Int.mul_nonneg (by omega) (by omega)
  have G : ∀ i : Nat, (out.set p.2.toNat p.1).getD i 0 = if i = p.2.toNat then p.1 else out.getD i 0 := fun i => by
    rw [List.getD_eq_getElem?_getD, List.getElem?_set, List.getD_eq_getElem?_getD]
    by_cases e : i = p.2.toNat
    · subst e; simp [hlt]
    · rw [if_neg (Ne.symm e), if_neg e]
  have up : ∀ i : Nat, 0 ≤ out.getD i 0 → 0 ≤ (out.set p.2.toNat p.1).getD i 0 := fun i hi => by
    rw [G]; split
    · exact hc0
    · exact hi
  have self : 0 ≤ (out.set p.2.toNat p.1).getD p.2.toNat 0 := by rw [G, if_pos rfl]; exact hc0
  refine ⟨by simp [h.len], fun i hi => ?_, fun q hq => ?_, fun s hs ho => ?_, fun i hi h0 n hn => ?_⟩
  · rw [G]
    split
    · rename_i e; subst e
      rw [hxi]
      exact .inr ⟨k, hw, hmin, hk⟩
    · exact h.fin i hi
  · rcases List.mem_append.1 hq with hq | hq
    · exact h.mem q (List.mem_cons_of_mem _ hq)
    · obtain ⟨n, hn, rfl⟩ := List.mem_map.1 hq
      refine ⟨k + 1, .step hw hn, ?_⟩
      rw [hk, Int.natCast_add, Int.mul_add]; simp
  · rcases h.srcs s hs ho with h2 | h2
    · exact .inl (up _ h2)
    · rcases List.mem_cons.1 h2 with e | h3
      · subst e; exact .inl self
      · exact .inr (List.mem_append.2 (.inl h3))
  · by_cases e : i = p.2.toNat
    · subst e
      rw [G (p.2.toNat), if_pos rfl]
      rw [hxi] at hn
      exact .inr (List.mem_append.2 (.inr (List.mem_map.2 ⟨n, hn, rfl⟩)))
    · rw [G i, if_neg e] at h0 ⊢
      rcases h.near i hi h0 n hn with h2 | h2
      · exact .inl (up _ h2)
      · rcases List.mem_cons.1 h2 with e2 | h3
        · subst e2; exact .inl self
        · exact .inr (List.mem_append.2 (.inl h3))
/-- The first items. -/
theorem DI.start (h1 : 1 ≤ step) : DI W S src step (List.replicate S.size (-1)) ((src.filter fun s => opn S s).map fun s => (0, s)) := by
  have G : ∀ i : Nat, i < S.size → (List.replicate S.size (-1 : Int)).getD i 0 = -1 := fun i hi => by
    rw [List.getD_eq_getElem?_getD, List.getElem?_replicate, if_pos hi]; rfl
  refine ⟨by simp, fun i hi => .inl (G i hi), fun p hp => ?_, fun s hs ho => .inr ?_, fun i hi h0 => ?_⟩
  · obtain ⟨s, hs, rfl⟩ := List.mem_map.1 hp
    have := List.mem_filter.1 hs
    exact ⟨0, .src this.1 this.2, by simp⟩
  · exact List.mem_map.2 ⟨s, List.mem_filter.2 ⟨hs, ho⟩, rfl⟩
  · rw [G i hi] at h0; omega
end
/-- How many aren't final. -/
def unf (out : List Int) : Nat := out.countP fun c => decide (c < 0)
theorem unf_set {out : List Int} {i : Nat} {c : Int} (hi : i < out.length) (h0 : out.getD i 0 < 0) (hc : 0 ≤ c) : unf (out.set i c) + 1 = unf out := by
  unfold unf
  have e : out.getD i 0 = out[i] := by rw [List.getD_eq_getElem?_getD, List.getElem?_eq_getElem hi]; rfl
  rw [e] at h0
  have hpos : 0 < out.countP fun c => decide (c < 0) := List.countP_pos_iff.2 ⟨out[i], List.getElem_mem hi, by simpa using h0⟩
  rw [List.countP_set hi]
  simp only [h0, decide_true, if_true]
  rw [if_neg (by simp; omega)]
  omega
end Go.Proofs.YtcjogomiiinkfaaDoor
