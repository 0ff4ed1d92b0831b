/- The example of the document, the document's Open and Cost, RoutePlans. -/
import Derived.Test.YtcjogomiiinkfaaDoorRouteA
import Derived.Test.YtcjogomiiinkfaaDoorFieldH
namespace Go.Proofs.YtcjogomiiinkfaaDoor
open Go.Mini
open Go.Proofs.YtcjogomiiinkfaaDoor.Code
set_option linter.unusedVariables false
set_option linter.unusedSimpArgs false
set_option linter.ambiguousOpen false
attribute [local irreducible] mx ml mld mstep MCalls Ex.thn Ex.inb
variable {E : World → Prop}

theorem oAwake_c (σ : H) : MCalls E Tryd.prog 27 [] σ (fun v τ => v = .bool true ∧ Ext σ τ) := by
  refine mcalls_of fn27 (by simp) ?_
  unfold c27 r27
  refine stepR0 ?_
  have o0 : opn exB 0 = true := by decide +kernel
  have o1 : opn exB 1 = true := by decide +kernel
  have n1 : (0 : Int) ∈ nearL 2 exB 1 := by decide +kernel
  have gr1 : gr 2 1 exB = true := by simp [gr21, exB]
  refine ml_call Sd0 Sd0 (oPlan_c 2 1 exB 0 1 2 _) ?_
  rintro v τ hp
  obtain ⟨wv, out, f, rfl, hc, hway, hout⟩ := plan_ok hp (by unfold planOK; rw [gr1, o0, o1]; rfl)
  obtain rfl := ex_cst hc
  have w1 : Wk 2 exB [1] 1 0 := .step (.src (by simp) o1) n1
  have hmin : ∀ j, Wk 2 exB [1] j 0 → 1 ≤ j := fun j h => by
    cases h with
    | src h _ => simp at h
    | step _ _ => omega
  obtain ⟨hl, y, hy, hpt⟩ := way_ok gr1 hc (by omega) (by omega) w1 hmin hway
  have hlast : out.getD 0 0 = 1 := by
    simp only [List.mem_singleton] at hy
    subst hy
    rcases path_last hpt with ⟨rfl, _⟩ | ⟨_, h⟩
    · cases hl
    · rw [hl] at h; exact h
  have a0 := ints_at (l := out) (i := 0) (by omega)
  rw [hlast] at a0
  have hl1 : ((out.length : Int) == 1) = true := by rw [hl]; rfl
  have ro := hout.rd
  clear hp hpt hway w1 hmin hc
  refine stepR0 ?_
  refine ml_call Sd0 Sd0 (tNumN_c τ) ?_
  rintro _ τ2 ⟨rfl, rfl⟩
  refine stepR0 ?_
  refine ml_len Sd0 ro Sd0 ?_
  rw [ints_len]
  (have fx := hl1; refine stepR ?_; clear fx)
  refine ml_getSg (q := 0) (e := .int .i64 1) (have fx := hl1; Sd) ro Sd0 Sd0 (by omega) a0 (fun p => (have fx := hl1; Sd)) fun p => ?_
  (have fx := hl1; refine stepR ?_; clear fx)
  exact fin1 ⟨(have fx := hl1; Sd), hout.1⟩

/-- The document's Open. -/
theorem roOpen_c (W Hh : Int) (S : ByteArray) (c : Int) (σ : H) : MCalls E Tryd.prog 29 [mapV W Hh S, .int .i64 c] σ (fun v τ => v = .bool (gr W Hh S && opn S c) ∧ Ext σ τ) := by
  refine mcalls_of fn29 (by simp) ?_
  unfold c29 r29 mapV
  refine stepR0 ?_
  refine ml_call Sd0 Sd0 (rRight_c W Hh S _) ?_
  rintro _ τ ⟨rfl, e1⟩
  have g1 := e1.cells (H.get_push_self σ _)
  have e1' : Ext σ τ := (Ext.push _ _).trans e1
  cases hz : gr W Hh S
  · refine stepR0 ?_
    refine fin1 ⟨?_, e1'⟩
    simp only [go_sem, reduceIte, Nat.reduceEqDiff, reduceCtorEq, Nat.reduceAdd, Nat.reduceLeDiff, Int.reduceNeg, Int.reduceToNat, Int.reduceBEq, Int.reduceBNe, Int.reduceLT, Int.reduceLE, Int.reduceAdd, Int.reduceSub, Bool.false_and]
  by_cases h0 : 0 ≤ c
  · by_cases h1 : c < S.size
    · obtain ⟨n, rfl⟩ := Int.eq_ofNat_of_zero_le h0
      have hn : n < S.size := by omega
      have ho := sgn_opn hn
      have hu : (((S.data.toList.getD n 0).toNat : Int) == (35 : Int)) = (S.data.toList.getD n 0 == 35) := u8eq _ 35 (by omega)
      rw [Bool.true_and]
      cases hb : S.data.toList.getD n 0 == 35
      · rw [hb] at hu ho
        have hu' : (((S.data.toList.getD n 0).toNat : Int) != (35 : Int)) = true := by rw [bne, hu]; rfl
        (have fx := And.intro h0 (And.intro h1 (And.intro g1 hu')); refine stepR ?_; clear fx)
        refine fin1 ⟨?_, e1'⟩
        rw [ho]
        exact (have fx := And.intro h0 (And.intro h1 hu'); Sd)
      · rw [hb] at hu ho
        have hu' : (((S.data.toList.getD n 0).toNat : Int) != (35 : Int)) = false := by rw [bne, hu]; rfl
        (have fx := And.intro h0 (And.intro h1 (And.intro g1 hu')); refine stepR ?_; clear fx)
        refine fin1 ⟨?_, e1'⟩
        rw [ho]
        exact (have fx := And.intro h0 (And.intro h1 hu'); Sd)
    · have ho : opn S c = false := by simp [opn, h1]
      (have fx := And.intro h0 (And.intro h1 g1); refine stepR ?_; clear fx)
      refine fin1 ⟨?_, e1'⟩
      rw [ho, Bool.true_and]
      exact (have fx := And.intro h0 h1; Sd)
  · have ho : opn S c = false := by simp [opn, h0]
    (have fx := And.intro h0 g1; refine stepR ?_; clear fx)
    refine fin1 ⟨?_, e1'⟩
    rw [ho, Bool.true_and]
    exact (have fx := h0; Sd)

/-- The document's Cost, of a right map's cell. -/
theorem roCost_c (W Hh : Int) (S : ByteArray) (a b step : Int) (σ : H) (hg : gr W Hh S = true) (ha : opn S a = true) (h1 : 1 ≤ step) (h2 : step ≤ 100) :
    MCalls E Tryd.prog 31 [mapV W Hh S, .int .i64 a, .int .i64 b, .int .i64 step] σ (fun v τ => (∃ f, Cst W S [b] step f ∧ v = .int .i64 (f.getD a.toNat 0)) ∧ Ext σ τ) := by
  refine mcalls_of fn31 (by simp) ?_
  unfold c31 r31 mapV
  refine stepR0 ?_
  refine ml_call Sd0 Sd0 (rCosts_c W Hh S [b] step _ _ (one_rd (H.get_push_self _ _)) hg h1 h2 (by simp)) ?_
  rintro v τ ⟨f, hc, hf⟩
  have hal := opn_lt ha
  have afa := ints_at (l := f) (i := a.toNat) (by rw [hc.1]; omega)
  refine stepR0 ?_
  refine ml_getS (q := a) hf.rd Sd0 Sd0 hal.1 afa fun p => ?_
  refine stepR0 ?_
  exact fin1 ⟨⟨f, hc, Sd0⟩, (Ext.push _ _).trans ((Ext.push _ _).trans hf.1)⟩
end Go.Proofs.YtcjogomiiinkfaaDoor
