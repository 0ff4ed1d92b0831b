import Derived.Test.YtepjinaomedecaaDoorRefA
import Derived.Test.YtepjinaomedecaaDoorGridH
namespace Go.Proofs.YtepjinaomedecaaDoor
open Go.Mini
open Go.Proofs.YtepjinaomedecaaDoor.Code
set_option linter.unusedVariables false
set_option linter.unusedSimpArgs false
set_option linter.ambiguousOpen false
attribute [local irreducible] mx ml mld mstep MCalls Ex.thn Ex.inb

/-! ## What is met, as long as something changes -/
structure MS (W : Int) (S : ByteArray) (src : List Int) (met : List Bool) : Prop where
  len : met.length = S.size
  snd : ∀ i : Nat, met.getD i false = true → ∃ k : Nat, Wk W S src k i
def MCm (W : Int) (S : ByteArray) (src : List Int) (r : Nat) (met : List Bool) : Prop := ∀ k, k ≤ r → ∀ x, Wk W S src k x → met.getD x.toNat false = true
def M1 (W : Int) (S : ByteArray) (src : List Int) (r i : Nat) (met : List Bool) : Prop := MS W S src met ∧ MCm W S src r met ∧ ∀ x : Int, x < i → Wk W S src (r + 1) x → met.getD x.toNat false = true
def M2 (W : Int) (S : ByteArray) (src : List Int) (r i j : Nat) (met : List Bool) : Prop := M1 W S src r i met ∧ ∀ y : Int, y < j → Wk W S src r y → (i : Int) ∈ nearL W S y → met.getD i false = true
section
variable {W : Int} {S : ByteArray} {src : List Int} {met : List Bool} {r i j : Nat}
theorem M2.start (h : M1 W S src r i met) : M2 W S src r i 0 met := ⟨h, fun y hy hw _ => by have := (opn_lt hw.opn).1; omega⟩
theorem M2.done (h : M2 W S src r i S.size met) : M1 W S src r (i + 1) met := by
  refine ⟨h.1.1, h.1.2.1, fun x hx hw => ?_⟩
  by_cases he : x < i
  · exact h.1.2.2 x he hw
  · have hx0 := opn_lt hw.opn
    have : x = (i : Int) := by omega
    subst this
    cases hw with
    | step hw hn => exact h.2 _ (opn_lt hw.opn).2 hw hn
theorem M1.wall (h : M1 W S src r i met) (ho : opn S i = false) : M1 W S src r (i + 1) met := by
  refine ⟨h.1, h.2.1, fun x hx hw => ?_⟩
  by_cases he : x < i
  · exact h.2.2 x he hw
  · have hx0 := opn_lt hw.opn
    have : x = (i : Int) := by omega
    subst this
    rw [hw.opn] at ho; cases ho
theorem M1.start (h : MS W S src met) (hc : MCm W S src r met) : M1 W S src r 0 met := ⟨h, hc, fun x hx hw => by have := (opn_lt hw.opn).1; omega⟩
theorem M1.done (h : M1 W S src r S.size met) : MS W S src met ∧ MCm W S src (r + 1) met :=
  ⟨h.1, fun k hk x hw => by
    by_cases he : k ≤ r
    · exact h.2.1 k he x hw
    · have : k = r + 1 := by omega
      subst this
      exact h.2.2 x (opn_lt hw.opn).2 hw⟩
theorem M2.skip (hW : 1 ≤ W ∧ W ≤ 8) (h : M2 W S src r i j met) (ho : opn S i = true) (hn : ¬ (met.getD j false = true ∧ beside W i j = true)) : M2 W S src r i (j + 1) met := by
  refine ⟨h.1, fun y hy hw hm => ?_⟩
  by_cases he : y < j
  · exact h.2 y he hw hm
  · have hy0 := opn_lt hw.opn
    have : y = (j : Int) := by omega
    subst this
    have hb := (near_iff hW hw.opn).1 hm
    have hc := h.1.2.1 r (Nat.le_refl _) _ hw
    rw [Int.toNat_natCast] at hc
    rw [beside_symm] at hb
    exact absurd ⟨hc, hb.2⟩ hn
theorem M2.set (hW : 1 ≤ W ∧ W ≤ 8) (h : M2 W S src r i j met) (ho : opn S i = true) (hm : met.getD j false = true) (hb : beside W i j = true) : M2 W S src r i (j + 1) (met.set i true) := by
  have hlen := h.1.1.len
  have hi : i < S.size := by have := (opn_lt ho).2; omega
  have G : ∀ m : Nat, (met.set i true).getD m false = if m = i then true else met.getD m false := fun m => getD_set _ _ _ _ _ (by omega)
  have mono : ∀ {m : Nat}, met.getD m false = true → (met.set i true).getD m false = true := fun {m} hm => by
    rw [G]; split
    · rfl
    · exact hm
  refine ⟨⟨⟨by simp [hlen], fun m hm2 => ?_⟩, fun k hk x hw => mono (h.1.2.1 k hk x hw), fun x hx hw => mono (h.1.2.2 x hx hw)⟩, fun y hy hw hm2 => ?_⟩
  · rw [G] at hm2
    split at hm2
    · rename_i e; subst e
      obtain ⟨k, hk⟩ := h.1.1.snd j hm
      have hbs := hb
      rw [beside_symm] at hbs
      exact ⟨k + 1, .step hk ((near_iff hW hk.opn).2 ⟨ho, hbs⟩)⟩
    · exact h.1.1.snd m hm2
  · rw [G, if_pos rfl]
theorem MCm.all (hc : MCm W S src S.size met) {k : Nat} {x : Int} (h : Wk W S src k x) : met.getD x.toNat false = true := by
  obtain ⟨m, _, hm1, hm2⟩ := h.min
  exact hc m (Nat.le_of_lt (hm1.short hm2)) _ hm1
end
theorem wk_reach {W : Int} {S : ByteArray} {c x : Int} {k : Nat} (h : Wk W S [c] k x) : Reach W S c x := by
  induction h with
  | src h ho => rw [List.mem_singleton] at h; subst h; exact .here
  | step _ hn ih => exact .step ih hn
theorem reach_wk {W : Int} {S : ByteArray} {c x : Int} (ho : opn S c = true) (h : Reach W S c x) : ∃ k, Wk W S [c] k x := by
  induction h with
  | here => exact ⟨0, .src (by simp) ho⟩
  | step _ hn ih => obtain ⟨k, hk⟩ := ih; exact ⟨k + 1, .step hk hn⟩

def firstS (S : ByteArray) : List Int := if 0 ≤ Lib.indexByte S.data.toList 67 then [Lib.indexByte S.data.toList 67] else []
/-- What is met when the first i cells were looked at. -/
def met0 (S : ByteArray) (i : Nat) : List Bool := (List.range S.size).map fun (j : Nat) => decide ((j : Int) = Lib.indexByte S.data.toList 67) && decide (j < i)
def flag0 (S : ByteArray) (i : Nat) : Bool := decide (0 ≤ Lib.indexByte S.data.toList 67) && decide (Lib.indexByte S.data.toList 67 < i)
theorem met0_get (S : ByteArray) (i j : Nat) : (met0 S i).getD j false = (decide (j < S.size) && (decide ((j : Int) = Lib.indexByte S.data.toList 67) && decide (j < i))) := by
  unfold met0
  rw [List.getD_eq_getElem?_getD, List.getElem?_map]
  by_cases h : j < S.size
  · rw [List.getElem?_range h]; simp [h]
  · rw [List.getElem?_eq_none (by simp; omega)]; simp [h]
theorem met0_len (S : ByteArray) (i : Nat) : (met0 S i).length = S.size := by simp [met0]
theorem met0_zero (S : ByteArray) : met0 S 0 = List.replicate S.size false := by
  apply List.ext_getElem?
  intro i
  unfold met0
  rw [List.getElem?_map, List.getElem?_replicate]
  by_cases h : i < S.size
  · rw [List.getElem?_range h, if_pos h]; simp
  · rw [List.getElem?_eq_none (by simp; omega), if_neg h]; rfl
theorem met0_step {S : ByteArray} {i : Nat} (hi : i < S.size) : met0 S (i + 1) = if S.data.toList.getD i 0 = 67 ∧ flag0 S i = false then (met0 S i).set i true else met0 S i := by
  apply List.ext_getElem?
  intro j
  have e : ∀ (l : List Bool), l.length = S.size → l[j]? = if j < S.size then some (l.getD j false) else none := fun l hl => by
    split
    · rw [List.getD_eq_getElem?_getD, List.getElem?_eq_getElem (by omega)]; rfl
    · exact List.getElem?_eq_none (by omega)
  rw [e _ (met0_len S _)]
  have hR : (if S.data.toList.getD i 0 = 67 ∧ flag0 S i = false then (met0 S i).set i true else met0 S i).length = S.size := by split <;> simp [met0_len]
  rw [e _ hR]
  split
  · rename_i hj
    congr 1
    rw [met0_get]
    have hc := first_c S
    by_cases h : S.data.toList.getD i 0 = 67 ∧ flag0 S i = false
    · rw [if_pos h]
      unfold flag0 at h
      rw [getD_set _ _ _ _ _ (by rw [met0_len]; exact hi), met0_get]
      rcases hc with ⟨_, h2⟩ | ⟨o, h1, h2, h3, h4⟩
      · exact absurd h.1 (h2 i hi)
      · rw [h1] at h ⊢
        have : o = i := by
          have := h.2
          simp only [Bool.and_eq_false_iff, decide_eq_false_iff_not] at this
          rcases Nat.lt_or_ge i o with hlt | hge
          · exact absurd h.1 (h4 i hlt)
          · omega
        subst this
        by_cases e : j = o
        · subst e; simp [hj]
        · rw [if_neg e]; have : ¬ (j : Int) = (o : Int) := by omega
          simp [this]
    · rw [if_neg h, met0_get]
      unfold flag0 at h
      rcases hc with ⟨h1, h2⟩ | ⟨o, h1, h2, h3, h4⟩
      · rw [h1]; have : ¬ (j : Int) = -1 := by omega
        simp [this]
      · rw [h1] at h ⊢
        have hne : o ≠ i := fun e => h (by subst e; exact ⟨h3, by simp⟩)
        by_cases e : j = o
        · subst e
          have : (j < i + 1) ↔ (j < i) := by omega
          simp [this]
        · have : ¬ (j : Int) = (o : Int) := by omega
          simp [this]
  · rfl
theorem flag0_step {S : ByteArray} {i : Nat} (hi : i < S.size) : flag0 S (i + 1) = (flag0 S i || (S.data.toList.getD i 0 == 67)) := by
  unfold flag0
  rcases first_c S with ⟨h1, h2⟩ | ⟨o, h1, h2, h3, h4⟩
  · rw [h1, beq_eq_false_iff_ne.2 (h2 i hi)]; simp
  · rw [h1]
    rcases Nat.lt_trichotomy i o with h | h | h
    · have := h4 i h
      have a : ¬ (o < i) := by omega
      have b : ¬ (o < i + 1) := by omega
      have a' : ¬ ((o : Int) < (i : Int)) := by omega
      have b' : ¬ ((o : Int) < ((i + 1 : Nat) : Int)) := by omega
      simp only [a', b', decide_false, Bool.and_false, Bool.false_or]
      exact (beq_eq_false_iff_ne.2 this).symm
    · subst h
      have b' : ((i : Int) < ((i + 1 : Nat) : Int)) := by omega
      simp only [b', decide_true, Bool.and_true]
      rw [h3]; simp
    · have a' : ((o : Int) < (i : Int)) := by omega
      have b' : ((o : Int) < ((i + 1 : Nat) : Int)) := by omega
      simp only [a', b', decide_true, Bool.and_true]; simp
theorem met0_ok (W : Int) (S : ByteArray) : MS W S (firstS S) (met0 S S.size) ∧ MCm W S (firstS S) 0 (met0 S S.size) := by
  unfold firstS
  refine ⟨⟨met0_len S _, fun i hi => ?_⟩, fun k hk x hw => ?_⟩
  · rw [met0_get] at hi
    simp only [Bool.and_eq_true, decide_eq_true_eq] at hi
    rcases first_c S with ⟨h1, h2⟩ | ⟨o, h1, h2, h3, h4⟩
    · omega
    · rw [h1] at hi ⊢
      have : i = o := by omega
      subst this
      rw [if_pos (by omega)]
      refine ⟨0, .src (by simp) ?_⟩
      simp only [opn, bAt, Int.toNat_natCast, h3]; simp [h2]
  · have : k = 0 := by omega
    subst this
    cases hw with
    | src hx ho =>
      split at hx
      · rename_i h0
        rw [List.mem_singleton] at hx
        have := opn_lt ho
        rw [met0_get]
        simp only [Bool.and_eq_true, decide_eq_true_eq]
        omega
      · cases hx
end Go.Proofs.YtepjinaomedecaaDoor
