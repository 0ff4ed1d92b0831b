/- Neighbours, plainly. -/
import Derived.Test.YtepjinaomedecaaDoorGridH
namespace Go.Proofs.YtepjinaomedecaaDoor
set_option linter.unusedVariables false
set_option linter.unusedSimpArgs false

def beside (W a b : Int) : Bool := if a.tdiv W = b.tdiv W then decide (a = b + 1) || decide (b = a + 1) else decide (a = b + W) || decide (b = a + W)
theorem mem_near {W : Int} {S : ByteArray} {c x : Int} : x ∈ nearL W S c ↔ opn S x = true ∧ (x = c - W ∨ (x = c - 1 ∧ c.tmod W > 0) ∨ (x = c + 1 ∧ c.tmod W < W - 1) ∨ x = c + W) := by
  unfold nearL
  simp only [mem_nadd, List.not_mem_nil, false_or, decide_eq_true_eq, true_and]
  constructor
  · rintro (((⟨h, h2⟩ | ⟨h, h1, h2⟩) | ⟨h, h1, h2⟩) | ⟨h, h2⟩)
    · subst h; exact ⟨h2, .inl rfl⟩
    · subst h; exact ⟨h2, .inr (.inl ⟨rfl, h1⟩)⟩
    · subst h; exact ⟨h2, .inr (.inr (.inl ⟨rfl, h1⟩))⟩
    · subst h; exact ⟨h2, .inr (.inr (.inr rfl))⟩
  · rintro ⟨h2, h | ⟨h, h1⟩ | ⟨h, h1⟩ | h⟩ <;> subst h
    · exact .inl (.inl (.inl ⟨rfl, h2⟩))
    · exact .inl (.inl (.inr ⟨rfl, h1, h2⟩))
    · exact .inl (.inr ⟨rfl, h1, h2⟩)
    · exact .inr ⟨rfl, h2⟩
theorem beside_iff {W a b : Int} (hW : 1 ≤ W ∧ W ≤ 8) (ha : 0 ≤ a) (hb : 0 ≤ b) : beside W a b = true ↔ (b = a - W ∨ (b = a - 1 ∧ a.tmod W > 0) ∨ (b = a + 1 ∧ a.tmod W < W - 1) ∨ b = a + W) := by
  unfold beside
  rw [Int.tdiv_eq_ediv_of_nonneg ha, Int.tdiv_eq_ediv_of_nonneg hb, Int.tmod_eq_emod_of_nonneg ha]
  have : W = 1 ∨ W = 2 ∨ W = 3 ∨ W = 4 ∨ W = 5 ∨ W = 6 ∨ W = 7 ∨ W = 8 := by omega
  rcases this with rfl | rfl | rfl | rfl | rfl | rfl | rfl | rfl <;>
    (split <;> simp only [Bool.or_eq_true, decide_eq_true_eq] <;> omega)
theorem beside_symm (W a b : Int) : beside W a b = beside W b a := by
  unfold beside
  by_cases h : a.tdiv W = b.tdiv W
  · rw [if_pos h, if_pos h.symm, Bool.or_comm]
  · rw [if_neg h, if_neg (fun e => h e.symm), Bool.or_comm]
theorem near_iff {W : Int} {S : ByteArray} {a b : Int} (hW : 1 ≤ W ∧ W ≤ 8) (ha : opn S a = true) : b ∈ nearL W S a ↔ opn S b = true ∧ beside W a b = true := by
  rw [mem_near]
  constructor
  · rintro ⟨h1, h2⟩; exact ⟨h1, (beside_iff hW (opn_lt ha).1 (opn_lt h1).1).2 h2⟩
  · rintro ⟨h1, h2⟩; exact ⟨h1, (beside_iff hW (opn_lt ha).1 (opn_lt h1).1).1 h2⟩
theorem near_symm {W : Int} {S : ByteArray} {a b : Int} (hW : 1 ≤ W ∧ W ≤ 8) (ha : opn S a = true) (h : b ∈ nearL W S a) : a ∈ nearL W S b := by
  have h1 := (near_iff hW ha).1 h
  exact (near_iff hW h1.1).2 ⟨ha, by rw [beside_symm]; exact h1.2⟩

theorem Reach.trans {W : Int} {S : ByteArray} {a b c : Int} (h : Reach W S a b) (k : Reach W S b c) : Reach W S a c := by
  induction k with
  | here => exact h
  | step _ hn ih => exact .step ih hn
theorem Reach.opn {W : Int} {S : ByteArray} {a b : Int} (ha : opn S a = true) (h : Reach W S a b) : Go.Proofs.YtepjinaomedecaaDoor.opn S b = true := by
  cases h with
  | here => exact ha
  | step _ hn => exact near_opn hn
theorem Reach.symm {W : Int} {S : ByteArray} {a b : Int} (hW : 1 ≤ W ∧ W ≤ 8) (ha : Go.Proofs.YtepjinaomedecaaDoor.opn S a = true) (h : Reach W S a b) : Reach W S b a := by
  induction h with
  | here => exact .here
  | step h hn ih => exact (Reach.step .here (near_symm hW (h.opn ha) hn)).trans ih
/-- Right, with any charger. -/
theorem gr_of {W Hh : Int} {S : ByteArray} (hz : szd W Hh S = true) {c : Nat} (hc : c < S.size) (hC : S.data.toList.getD c 0 = 67) (hr : ∀ x, opn S x = true → Reach W S c x) : gr W Hh S = true := by
  obtain ⟨hW, _⟩ := szd_spec hz
  rw [gr_iff]
  rcases first_c S with ⟨h1, h2⟩ | ⟨o, h1, h2, h3, h4⟩
  · exact absurd hC (h2 c hc)
  · have op : ∀ i : Nat, i < S.size → S.data.toList.getD i 0 = 67 → opn S i = true := fun i hi h => by
      simp only [opn, bAt, Int.toNat_natCast, h]
      have h5 : (0 : Int) ≤ (i : Int) := by omega
      have h6 : (i : Int) < (S.size : Int) := by omega
      simp [h6]
    refine ⟨hz, by rw [h1]; omega, fun x hx => ?_⟩
    rw [h1]
    exact ((hr o (op o h2 h3)).symm hW (op c hc hC)).trans (hr x hx)
theorem gr_all {W Hh : Int} {S : ByteArray} (h : gr W Hh S = true) : szd W Hh S = true ∧ ∃ c : Nat, c < S.size ∧ S.data.toList.getD c 0 = 67 ∧ ∀ x, opn S x = true → Reach W S c x := by
  obtain ⟨h1, h2, h3⟩ := gr_iff.1 h
  rcases first_c S with ⟨k1, _⟩ | ⟨o, k1, k2, k3, _⟩
  · omega
  · exact ⟨h1, o, k2, k3, by rw [k1] at h3; exact h3⟩
/-- The awake map is right. -/
theorem gr21 : gr 2 1 ⟨#[46, 67]⟩ = true := by
  have h1 : opn ⟨#[46, 67]⟩ 1 = true := by decide +kernel
  rw [gr_iff]
  refine ⟨by decide +kernel, by decide +kernel, fun x hx => ?_⟩
  have e : Lib.indexByte (⟨#[46, 67]⟩ : ByteArray).data.toList 67 = 1 := by decide +kernel
  rw [e]
  have hlt := opn_lt hx
  have hs : ((⟨#[46, 67]⟩ : ByteArray).size : Int) = 2 := by decide +kernel
  have hx2 : x = 0 ∨ x = 1 := by omega
  rcases hx2 with rfl | rfl
  · exact .step .here (by decide +kernel)
  · exact .here

end Go.Proofs.YtepjinaomedecaaDoor
