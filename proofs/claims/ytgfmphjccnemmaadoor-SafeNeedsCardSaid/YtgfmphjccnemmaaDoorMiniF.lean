/- The small operations tell what the model's do: slices. -/
import Derived.Test.YtgfmphjccnemmaaDoorMiniE
import Derived.Laws.BytesString
namespace Go.Mini
open Go.RowKit (Below)
set_option linter.unusedVariables false
set_option linter.unusedSimpArgs false
section
variable {P : Program} {B : Nat} {w0 w : World} {μ : Nat → Blk} {σ τ : H} {ts : Fr} {v : Value}

theorem run_bnd {y y' : Nat} {x x' : Value} {n k : Nat} {c : BoundsCode} (h : bnd y x = some k) (hx : VR μ n x x') (hy : y ≤ y') (w : World) : (Instr.sliceBound x' y' c).run P w = .ok k w := by
  unfold bnd at h
  split at h
  · rename_i j i
    obtain rfl := hx.inv_int
    split at h
    · rename_i hb
      simp only [Option.some.injEq] at h
      subst h
      have : 0 ≤ i ∧ i ≤ (y' : Int) := ⟨hb.1, by omega⟩
      simp [Instr.sliceBound, asIntOf, this]
    · cases h
  · cases h
theorem bnd_le {y k : Nat} {x : Value} (h : bnd y x = some k) : k ≤ y := by
  unfold bnd at h
  split at h
  · split at h
    · simp only [Option.some.injEq] at h; omega
    · cases h
  · cases h
/-- An operand that may lack. -/
inductive OVR (μ : Nat → Blk) (n : Nat) : Option Value → Option Value → Prop where
  | none : OVR μ n none none
  | some {x x' : Value} (h : VR μ n x x') : OVR μ n (some x) (some x')
theorem run_bnds {len cap cap' n : Nat} {lo hi mx lo' hi' mx' : Option Value} {l h m : Nat} {isS : Bool} (hb : bnds len cap lo hi mx = some (l, h, m)) (hlo : OVR μ n lo lo') (hhi : OVR μ n hi hi') (hmx : OVR μ n mx mx')
    (hl : len ≤ cap) (hc : cap ≤ cap') (w : World) : ∃ m', (Instr.sliceBounds isS len cap' lo' hi' mx').run P w = .ok (l, h, m') w ∧ l ≤ h ∧ h ≤ m ∧ m ≤ m' ∧ m ≤ cap ∧ m' ≤ cap' ∧ (mx.isSome → m' = m) ∧ (mx = Option.none → m = cap ∧ m' = cap') := by
  unfold bnds at hb
  cases hmx with
  | none =>
    simp only [Option.isNone_none, if_true] at hb
    cases hhi with
    | none =>
      simp only at hb
      cases hlo with
      | none =>
        simp only [Option.some.injEq, Prod.mk.injEq] at hb
        obtain ⟨rfl, rfl, rfl⟩ := hb
        exact ⟨cap', by simp [Instr.sliceBounds], by omega, hl, hc, by omega, by omega, by simp, by simp⟩
      | some h0 =>
        simp only at hb
        split at hb
        · cases hb
        · rename_i q hq
          simp only [Option.some.injEq, Prod.mk.injEq] at hb
          obtain ⟨rfl, rfl, rfl⟩ := hb
          exact ⟨cap', by simp [Instr.sliceBounds, run_bnd (P := P) hq h0 (Nat.le_refl _)], bnd_le hq, hl, hc, by omega, by omega, by simp, by simp⟩
    | some h1 =>
      simp only at hb
      split at hb
      · cases hb
      · rename_i q hq
        cases hlo with
        | none =>
          simp only [Option.some.injEq, Prod.mk.injEq] at hb
          obtain ⟨rfl, rfl, rfl⟩ := hb
          exact ⟨cap', by simp [Instr.sliceBounds, run_bnd (P := P) hq h1 hc], by omega, bnd_le hq, hc, by omega, by omega, by simp, by simp⟩
        | some h0 =>
          simp only at hb
          split at hb
          · cases hb
          · rename_i q0 hq0
            simp only [Option.some.injEq, Prod.mk.injEq] at hb
            obtain ⟨rfl, rfl, rfl⟩ := hb
            exact ⟨cap', by simp [Instr.sliceBounds, run_bnd (P := P) hq h1 hc, run_bnd (P := P) hq0 h0 (Nat.le_refl _)], bnd_le hq0, bnd_le hq, hc, by omega, by omega, by simp, by simp⟩
  | some h2 =>
    simp only at hb
    split at hb
    · cases hb
    · rename_i q2 hq2
      cases hhi with
      | none => simp at hb
      | some h1 =>
        simp only at hb
        split at hb
        · cases hb
        · rename_i q hq
          cases hlo with
          | none =>
            simp only [Option.some.injEq, Prod.mk.injEq] at hb
            obtain ⟨rfl, rfl, rfl⟩ := hb
            exact ⟨q2, by simp [Instr.sliceBounds, run_bnd (P := P) hq2 h2 hc, run_bnd (P := P) hq h1 (Nat.le_refl _)], by omega, bnd_le hq, by omega, bnd_le hq2, by have := bnd_le hq2; omega, by simp, by simp⟩
          | some h0 =>
            simp only at hb
            split at hb
            · cases hb
            · rename_i q0 hq0
              simp only [Option.some.injEq, Prod.mk.injEq] at hb
              obtain ⟨rfl, rfl, rfl⟩ := hb
              exact ⟨q2, by simp [Instr.sliceBounds, run_bnd (P := P) hq2 h2 hc, run_bnd (P := P) hq h1 (Nat.le_refl _), run_bnd (P := P) hq0 h0 (Nat.le_refl _)], bnd_le hq0, bnd_le hq, by omega, bnd_le hq2, by have := bnd_le hq2; omega, by simp, by simp⟩

theorem told_slc (hs : Sim B w0 μ σ w) {x : Opd} {x' : Value} {t e : TypeId} {n : Nat} {lo hi mx : Option Opd} {lo' hi' mx' : Option Value} (hu : P.underlying t = some (.slice e)) (hn : sizeT P e = some n)
    (hx : VR μ σ.size (mev ts x) x') (hlo : OVR μ σ.size (lo.map (mev ts)) lo') (hhi : OVR μ σ.size (hi.map (mev ts)) hi') (hmx : OVR μ σ.size (mx.map (mev ts)) mx')
    (hm : mop ts σ (.slc n x lo hi mx) = some (v, τ)) : Told P B w0 μ σ τ v (do pure (.value (← Instr.sliceAt t x' lo' hi' mx'))) w := by
  simp only [mop] at hm
  split at hm
  · rename_i id off len cap e1
    rw [e1] at hx
    obtain ⟨cap', o', rfl, _, hid, hl, hc, ho, hz, hex⟩ := hx.inv_slice
    dsimp only at hid ho hz hex
    split at hm
    · rename_i l h m hb
      split at hm
      · rename_i hok
        simp only [Option.some.injEq, Prod.mk.injEq] at hm
        obtain ⟨rfl, rfl⟩ := hm
        obtain ⟨m', hr, a1, a2, a3, a4, a5, a6, a7⟩ := run_bnds (P := P) (isS := true) hb hlo hhi hmx hl hc w
        have hsz : (μ id).sz ≠ 0 → n = (μ id).sz ∨ ∃ cs, σ.get id = .ro cs := fun hne => by
          unfold okSz at hok
          split at hok
          · rename_i s cs hg
            have := (hs.own id s cs hg).1.2.1
            simp at hok
            rcases hok with h | h
            · left; omega
            · omega
          · rename_i cs hg; exact .inr ⟨cs, hg⟩
          · cases hok
        refine .same (v' := .slice (some (if m' = l then ⟨(μ id).b, o', none⟩ else ⟨(μ id).b, o' + l * n, none⟩)) (h - l) (m' - l)) hs ?_ ?_
        · simp only [Instr.sliceAt, Instr.slice, Sem.run_bind, run_und hu, Result.andThen_ok, hr, run_size hn, Sem.run_pure]
          split <;> simp [addr_add]
        · by_cases hml : m' = l
          · rw [if_pos hml]
            exact .slice hid (by omega) (by omega) (by omega) (fun hne => by have := hz hne; rw [show m' - l = 0 by omega]; have : o' ≤ (μ id).n := by { have := hz hne; omega }; omega) (fun e => by omega)
          · rw [if_neg hml]
            refine .slice hid (by omega) (by omega) (fun h0 => by rw [ho (by omega), Nat.add_assoc]) (fun hne => ?_) (fun e => ?_)
            · have hz' := hz hne
              rcases hsz hne with e | ⟨cs, hg⟩
              · rw [← e] at hz' ⊢
                have h1 : l * n + (m' - l) * n = m' * n := by rw [← Nat.add_mul]; congr 1; omega
                have h2 : m' * n ≤ cap' * n := Nat.mul_le_mul_right _ a5
                omega
              · exact absurd (hs.ro id cs hg).1 hne
            · have := hex e
              rcases Nat.eq_or_lt_of_le a3 with x | x
              · omega
              · cases hmx' : mx.map (mev ts) with
                | none => have := a7 hmx'; omega
                | some _ => have := a6 (by rw [hmx']; rfl); omega
      · cases hm
    · cases hm
  · rename_i e1
    rw [e1] at hx
    obtain ⟨rfl, _, _⟩ := hx.inv_nilSlice
    split at hm
    · rename_i l h m hb
      simp only [Option.some.injEq, Prod.mk.injEq] at hm
      obtain ⟨rfl, rfl⟩ := hm
      obtain ⟨m', hr, a1, a2, a3, a4, a5, a6, a7⟩ := run_bnds (P := P) (isS := true) hb hlo hhi hmx (Nat.le_refl 0) (Nat.le_refl 0) w
      refine .same (v' := .slice none 0 0) hs ?_ .nilSlice
      simp only [Instr.sliceAt, Instr.slice, Sem.run_bind, run_und hu, Result.andThen_ok, hr, run_size hn, Sem.run_pure]
      have : l = 0 := by omega
      have : h = 0 := by omega
      have : m' = 0 := by omega
      subst_vars
      rfl
    · cases hm
  · cases hm
end
end Go.Mini
