/- Neighbours by the document; as long as something changes. -/
import Derived.Test.YtepjinaomedecaaDoorWkP
import Derived.Test.YtepjinaomedecaaDoorNearP
namespace Go.Proofs.YtepjinaomedecaaDoor
set_option linter.unusedVariables false
set_option linter.unusedSimpArgs false

/-! ## How far the farthest is -/
theorem Wk.min {W : Int} {S : ByteArray} {src : List Int} {k : Nat} {x : Int} (h : Wk W S src k x) : ∃ m, m ≤ k ∧ Wk W S src m x ∧ ∀ j, Wk W S src j x → m ≤ j := by
  induction k using Nat.strongRecOn with
  | ind k ih =>
    by_cases hc : ∃ j, j < k ∧ Wk W S src j x
    · obtain ⟨j, hj, hw⟩ := hc
      obtain ⟨m, h1, h2, h3⟩ := ih j hj hw
      exact ⟨m, by omega, h2, h3⟩
    · exact ⟨k, Nat.le_refl _, h, fun j hj => Nat.le_of_not_lt fun hlt => hc ⟨j, hlt, hj⟩⟩
theorem Wk.chain {W : Int} {S : ByteArray} {src : List Int} : ∀ {k : Nat} {x : Int}, Wk W S src k x → (∀ j, Wk W S src j x → k ≤ j) → ∃ l : List Int, l.length = k + 1 ∧ l.Nodup ∧ ∀ y ∈ l, Go.Proofs.YtepjinaomedecaaDoor.opn S y = true ∧ ∃ j, j ≤ k ∧ Wk W S src j y := by
  intro k x h
  induction h with
  | @src x h ho => exact fun _ => ⟨[x], rfl, by simp, fun y hy => by rw [List.mem_singleton] at hy; subst hy; exact ⟨ho, 0, Nat.le_refl _, .src h ho⟩⟩
  | @step k y x h hn ih =>
    intro hm
    obtain ⟨l, h1, h2, h3⟩ := ih (fun j hj => by have := hm (j + 1) (.step hj hn); omega)
    refine ⟨x :: l, by simp [h1], List.nodup_cons.2 ⟨fun hx => ?_, h2⟩, fun z hz => ?_⟩
    · obtain ⟨_, j, hj, hw⟩ := h3 x hx
      have := hm j hw; omega
    · rcases List.mem_cons.1 hz with rfl | hz
      · exact ⟨near_opn hn, k + 1, Nat.le_refl _, .step h hn⟩
      · obtain ⟨a, j, b, c⟩ := h3 z hz; exact ⟨a, j, by omega, c⟩
theorem Wk.short {W : Int} {S : ByteArray} {src : List Int} {k : Nat} {x : Int} (h : Wk W S src k x) (hm : ∀ j, Wk W S src j x → k ≤ j) : k < S.size := by
  obtain ⟨l, h1, h2, h3⟩ := h.chain hm
  have := nodup_len (n := S.size) h2 (fun x hx => opn_lt (h3 x hx).1)
  omega

/-! ## Costs, as long as something changes -/
/-- Sound. -/
structure Snd (W : Int) (S : ByteArray) (src : List Int) (step : Int) (out : List Int) : Prop where
  len : out.length = S.size
  snd : ∀ i : Nat, i < S.size → out.getD i 0 = -1 ∨ ∃ k : Nat, Wk W S src k i ∧ out.getD i 0 = step * k
  bnd : ∀ i : Nat, i < S.size → out.getD i 0 ≤ step * ((S.size - unf out : Nat) : Int)
/-- So many rounds are done. -/
def Cmp (W : Int) (S : ByteArray) (src : List Int) (step : Int) (r : Nat) (out : List Int) : Prop := ∀ k, k ≤ r → ∀ x, Wk W S src k x → 0 ≤ out.getD x.toNat 0 ∧ out.getD x.toNat 0 ≤ step * k
def P1 (W : Int) (S : ByteArray) (src : List Int) (step : Int) (r i : Nat) (out : List Int) : Prop :=
  Snd W S src step out ∧ Cmp W S src step r out ∧ ∀ x : Int, x < i → Wk W S src (r + 1) x → 0 ≤ out.getD x.toNat 0 ∧ out.getD x.toNat 0 ≤ step * ((r + 1 : Nat) : Int)
def P2 (W : Int) (S : ByteArray) (src : List Int) (step : Int) (r i j : Nat) (out : List Int) : Prop :=
  P1 W S src step r i out ∧ ∀ y : Int, y < j → Wk W S src r y → (i : Int) ∈ nearL W S y → 0 ≤ out.getD i 0 ∧ out.getD i 0 ≤ step * ((r + 1 : Nat) : Int)
section
variable {W : Int} {S : ByteArray} {src : List Int} {step : Int} {out : List Int} {r i j : Nat}
theorem P2.start (h : P1 W S src step r i out) : P2 W S src step r i 0 out := ⟨h, fun y hy hw _ => by have := (opn_lt hw.opn).1; omega⟩
theorem P2.done (h : P2 W S src step r i S.size out) : P1 W S src step r (i + 1) out := by
  refine ⟨h.1.1, h.1.2.1, fun x hx hw => ?_⟩
  by_cases he : x < i
  · exact h.1.2.2 x he hw
  · have hx0 := opn_lt hw.opn
    have : x = (i : Int) := by omega
    subst this
    cases hw with
    | step hw hn => exact h.2 _ (opn_lt hw.opn).2 hw hn
theorem P1.wall (h : P1 W S src step r i out) (ho : opn S i = false) : P1 W S src step r (i + 1) out := by
  refine ⟨h.1, h.2.1, fun x hx hw => ?_⟩
  by_cases he : x < i
  · exact h.2.2 x he hw
  · have hx0 := opn_lt hw.opn
    have : x = (i : Int) := by omega
    subst this
    rw [hw.opn] at ho; cases ho
theorem P1.start (h : Snd W S src step out) (hc : Cmp W S src step r out) : P1 W S src step r 0 out := ⟨h, hc, fun x hx hw => by have := (opn_lt hw.opn).1; omega⟩
theorem P1.done (h : P1 W S src step r S.size out) : Snd W S src step out ∧ Cmp W S src step (r + 1) out :=
  ⟨h.1, fun k hk x hw => by
    by_cases he : k ≤ r
    · exact h.2.1 k he x hw
    · have : k = r + 1 := by omega
      subst this
      exact h.2.2 x (opn_lt hw.opn).2 hw⟩
/-- Nothing changes at this neighbour. -/
theorem P2.skip (hW : 1 ≤ W ∧ W ≤ 8) (h : P2 W S src step r i j out) (ho : opn S i = true)
    (hn : ¬ (beside W i j = true ∧ 0 ≤ out.getD j 0 ∧ (out.getD i 0 < 0 ∨ out.getD j 0 + step < out.getD i 0))) : P2 W S src step r i (j + 1) out := by
  refine ⟨h.1, fun y hy hw hm => ?_⟩
  by_cases he : y < j
  · exact h.2 y he hw hm
  · have hy0 := opn_lt hw.opn
    have : y = (j : Int) := by omega
    subst this
    have hb := (near_iff hW hw.opn).1 hm
    have hc := h.1.2.1 r (Nat.le_refl _) _ hw
    rw [Int.toNat_natCast] at hc
    have e : step * ((r + 1 : Nat) : Int) = step * (r : Int) + step := by rw [Int.natCast_add, Int.mul_add]; simp
    rw [beside_symm] at hb
    rw [e]
    have : ¬ (out.getD i 0 < 0 ∨ out.getD j 0 + step < out.getD i 0) := fun h => hn ⟨hb.2, hc.1, h⟩
    omega
theorem P2.set (hW : 1 ≤ W ∧ W ≤ 8) (h1 : 1 ≤ step) (h : P2 W S src step r i j out) (ho : opn S i = true) (hj : j < S.size)
    (hb : beside W i j = true) (h0 : 0 ≤ out.getD j 0) (hlt : out.getD i 0 < 0 ∨ out.getD j 0 + step < out.getD i 0) : P2 W S src step r i (j + 1) (out.set i (out.getD j 0 + step)) := by
  have hlen := h.1.1.len
  have hi : i < S.size := by have := (opn_lt ho).2; omega
  have hil : i < out.length := by omega
  have G' : ∀ (c : Int) (m : Nat), (out.set i c).getD m 0 = if m = i then c else out.getD m 0 := fun c m => by
    rw [List.getD_eq_getElem?_getD, List.getElem?_set, List.getD_eq_getElem?_getD]
    by_cases e : m = i
    · subst e; simp [hil]
    · rw [if_neg (Ne.symm e), if_neg e]
  have G := G' (out.getD j 0 + step)
  have mono : ∀ {m : Nat} {b : Int}, 0 ≤ out.getD m 0 ∧ out.getD m 0 ≤ b → 0 ≤ (out.set i (out.getD j 0 + step)).getD m 0 ∧ (out.set i (out.getD j 0 + step)).getD m 0 ≤ b := fun {m b} hm => by
    rw [G]; split
    · rename_i e; subst e; omega
    · exact hm
  have hu : unf (out.set i (out.getD j 0 + step)) ≤ unf out ∧ (out.getD i 0 < 0 → unf (out.set i (out.getD j 0 + step)) + 1 = unf out) := by
    by_cases hneg : out.getD i 0 < 0
    · have := unf_set (c := out.getD j 0 + step) hil hneg (by omega); exact ⟨by omega, fun _ => this⟩
    · refine ⟨?_, fun h => absurd h hneg⟩
      unfold unf
      rw [List.countP_set hil]
      have e : out.getD i 0 = out[i] := by rw [List.getD_eq_getElem?_getD, List.getElem?_eq_getElem hil]; rfl
      rw [e] at hneg
      simp only [hneg, decide_false, Bool.false_eq_true, if_false, Nat.sub_zero]
      rw [if_neg (by rw [decide_eq_true_eq]; omega)]
      exact Nat.le_refl _
  have hus : unf out ≤ S.size := by rw [← hlen]; exact List.countP_le_length
  refine ⟨⟨⟨by simp [hlen], fun m hm => ?_, fun m hm => ?_⟩, fun k hk x hw => mono (h.1.2.1 k hk x hw), fun x hx hw => mono (h.1.2.2 x hx hw)⟩, fun y hy hw hm => ?_⟩
  · rw [G]; split
    · rename_i e; subst e
      rcases h.1.1.snd j hj with h2 | ⟨k, h2, h3⟩
      · omega
      · have hbs := hb
        rw [beside_symm] at hbs
        exact .inr ⟨k + 1, .step h2 ((near_iff hW h2.opn).2 ⟨ho, hbs⟩), by rw [h3, Int.natCast_add, Int.mul_add]; simp⟩
    · exact h.1.1.snd m hm
  · have hmul : ∀ {a b : Nat}, a ≤ b → step * (a : Int) ≤ step * (b : Int) := fun hab => Int.mul_le_mul_of_nonneg_left (by omega) (by omega)
    rw [G]; split
    · rename_i e; subst e
      by_cases hneg : out.getD m 0 < 0
      · have h3 := hu.2 hneg
        have h4 := h.1.1.bnd j hj
        have e : (S.size - unf (out.set m (out.getD j 0 + step)) : Nat) = (S.size - unf out : Nat) + 1 := by omega
        rw [e, Int.natCast_add, Int.mul_add]; simp; exact h4
      · have h4 := h.1.1.bnd m hm
        have h5 := hmul (show S.size - unf out ≤ S.size - unf (out.set m (out.getD j 0 + step)) by have := hu.1; omega)
        omega
    · have h4 := h.1.1.bnd m hm
      have h5 := hmul (show S.size - unf out ≤ S.size - unf (out.set i (out.getD j 0 + step)) by have := hu.1; omega)
      omega
  · by_cases he : y < j
    · exact mono (h.2 y he hw hm)
    · have hy0 := opn_lt hw.opn
      have : y = (j : Int) := by omega
      subst this
      have hc := h.1.2.1 r (Nat.le_refl _) _ hw
      rw [Int.toNat_natCast] at hc
      have e : step * ((r + 1 : Nat) : Int) = step * (r : Int) + step := by rw [Int.natCast_add, Int.mul_add]; simp
      rw [G, if_pos rfl, e]; omega
/-- Behind as many rounds as there are cells. -/
theorem Cmp.all (h1 : 1 ≤ step) (h : Snd W S src step out) (hc : Cmp W S src step S.size out) : Cst W S src step out := by
  refine ⟨h.len, fun i hi => ?_⟩
  rcases h.snd i hi with h2 | ⟨k, h2, h3⟩
  · refine .inl ⟨h2, fun k hw => ?_⟩
    obtain ⟨m, _, hm1, hm2⟩ := hw.min
    have := hc m (Nat.le_of_lt (hm1.short hm2)) _ hm1
    rw [Int.toNat_natCast] at this
    omega
  · obtain ⟨m, hmk, hm1, hm2⟩ := h2.min
    have h4 := hc m (Nat.le_of_lt (hm1.short hm2)) _ hm1
    rw [Int.toNat_natCast, h3] at h4
    have h5 := Int.le_of_mul_le_mul_left h4.2 (by omega)
    have : k = m := by omega
    subst this
    exact .inr ⟨k, hm1, hm2, h3⟩
/-- The first costs. -/
theorem Snd.start (h1 : 1 ≤ step) (hl : out.length = S.size) (h : ∀ i : Nat, i < S.size → out.getD i 0 = if (i : Int) ∈ src ∧ opn S i = true then 0 else -1) :
    Snd W S src step out ∧ Cmp W S src step 0 out := by
  refine ⟨⟨hl, fun i hi => ?_, fun i hi => ?_⟩, fun k hk x hw => ?_⟩
  · rw [h i hi]
    split
    · rename_i hc; exact .inr ⟨0, .src hc.1 hc.2, by simp⟩
    · exact .inl rfl
  · have : 0 ≤ step * ((S.size - unf out : Nat) : Int) := Int.mul_nonneg (by omega) (by omega)
    rw [h i hi]; split <;> omega
  · have : k = 0 := by omega
    subst this
    cases hw with
    | src hx ho =>
      have hx0 := opn_lt ho
      have e : ((x.toNat : Nat) : Int) = x := Int.toNat_of_nonneg hx0.1
      rw [h x.toNat (by omega), e, if_pos ⟨hx, ho⟩]; simp
end
end Go.Proofs.YtepjinaomedecaaDoor
