import Derived.Test.YtcjogomiiinkfaaDoorRefP
import Derived.Test.YtcjogomiiinkfaaDoorBase4
import Derived.Test.YtcjogomiiinkfaaDoorFieldB
namespace Go.Proofs.YtcjogomiiinkfaaDoor
open Go.Mini
open Go.Proofs.YtcjogomiiinkfaaDoor.Code
set_option linter.unusedVariables false
set_option linter.unusedSimpArgs false
set_option linter.ambiguousOpen false
attribute [local irreducible] mx ml mld mstep MCalls Ex.thn Ex.inb
variable {E : World → Prop}

theorem rBeside_c (W a b : Int) (σ : H) (hW : 1 ≤ W ∧ W ≤ 8) (ha : 0 ≤ a ∧ a ≤ 1000) (hb : 0 ≤ b ∧ b ≤ 1000) :
    MCalls E Tryd.prog 30 [.int .i64 W, .int .i64 a, .int .i64 b] σ (fun v τ => v = .bool (beside W a b) ∧ τ = σ) := by
  refine mcalls_of fn30 (by simp) ?_
  unfold c30 r30 beside
  have h0 : W ≠ 0 := by omega
  have d1 : 0 ≤ a.tdiv W ∧ a.tdiv W ≤ a := ⟨Int.tdiv_nonneg ha.1 (by omega), Int.tdiv_le_self _ ha.1⟩
  have d2 : 0 ≤ b.tdiv W ∧ b.tdiv W ≤ b := ⟨Int.tdiv_nonneg hb.1 (by omega), Int.tdiv_le_self _ hb.1⟩
  by_cases h : a.tdiv W = b.tdiv W
  · have h1 : (a.tdiv W == b.tdiv W) = true := by simpa using h
    rw [if_pos h]
    generalize hq1 : a.tdiv W = q1 at *
    generalize hq2 : b.tdiv W = q2 at *
    by_cases h2 : a = b + 1
    · have h2' : (a == b + 1) = true := by simpa using h2
      (have fx := And.intro hq1 (And.intro hq2 (And.intro h1 h2')); refine stepR ?_; clear fx)
      refine fin1 ⟨?_, rfl⟩
      simp only [go_sem, reduceIte, Nat.reduceEqDiff, reduceCtorEq, Nat.reduceAdd, Nat.reduceLeDiff, Int.reduceNeg, Int.reduceToNat, Int.reduceBEq, Int.reduceBNe, Int.reduceLT, Int.reduceLE, Int.reduceAdd, Int.reduceSub, h2', h2, Bool.true_or]
    · have h2' : (a == b + 1) = false := by simpa using h2
      (have fx := And.intro hq1 (And.intro hq2 (And.intro h1 h2')); refine stepR ?_; clear fx)
      refine fin1 ⟨?_, rfl⟩
      simp only [go_sem, reduceIte, Nat.reduceEqDiff, reduceCtorEq, Nat.reduceAdd, Nat.reduceLeDiff, Int.reduceNeg, Int.reduceToNat, Int.reduceBEq, Int.reduceBNe, Int.reduceLT, Int.reduceLE, Int.reduceAdd, Int.reduceSub, h2', h2, Bool.false_or]
      rw [Value.bool.injEq, Bool.eq_iff_iff]; simp
  · have h1 : (a.tdiv W == b.tdiv W) = false := by simpa using h
    rw [if_neg h]
    generalize hq1 : a.tdiv W = q1 at *
    generalize hq2 : b.tdiv W = q2 at *
    by_cases h2 : a = b + W
    · have h2' : (a == b + W) = true := by simpa using h2
      (have fx := And.intro hq1 (And.intro hq2 (And.intro h1 h2')); refine stepR ?_; clear fx)
      refine fin1 ⟨?_, rfl⟩
      simp only [go_sem, reduceIte, Nat.reduceEqDiff, reduceCtorEq, Nat.reduceAdd, Nat.reduceLeDiff, Int.reduceNeg, Int.reduceToNat, Int.reduceBEq, Int.reduceBNe, Int.reduceLT, Int.reduceLE, Int.reduceAdd, Int.reduceSub, h2', h2, Bool.true_or]
    · have h2' : (a == b + W) = false := by simpa using h2
      (have fx := And.intro hq1 (And.intro hq2 (And.intro h1 h2')); refine stepR ?_; clear fx)
      refine fin1 ⟨?_, rfl⟩
      simp only [go_sem, reduceIte, Nat.reduceEqDiff, reduceCtorEq, Nat.reduceAdd, Nat.reduceLeDiff, Int.reduceNeg, Int.reduceToNat, Int.reduceBEq, Int.reduceBNe, Int.reduceLT, Int.reduceLE, Int.reduceAdd, Int.reduceSub, h2', h2, Bool.false_or]
      rw [Value.bool.injEq, Bool.eq_iff_iff]; simp
end Go.Proofs.YtcjogomiiinkfaaDoor
