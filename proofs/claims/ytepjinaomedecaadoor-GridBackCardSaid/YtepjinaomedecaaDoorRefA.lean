import Derived.Test.YtepjinaomedecaaDoorRefP
import Derived.Test.YtepjinaomedecaaDoorBase4
namespace Go.Proofs.YtepjinaomedecaaDoor
open Go.Mini
open Go.Proofs.YtepjinaomedecaaDoor.Code
set_option linter.unusedVariables false
set_option linter.unusedSimpArgs false
set_option linter.ambiguousOpen false
attribute [local irreducible] mx ml mld mstep MCalls Ex.thn Ex.inb
variable {E : World → Prop}

theorem rBeside_c (W a b : Int) (σ : H) (hW : 1 ≤ W ∧ W ≤ 8) (ha : 0 ≤ a ∧ a ≤ 1000) (hb : 0 ≤ b ∧ b ≤ 1000) :
    MCalls E Tryd.prog 42 [.int .i64 W, .int .i64 a, .int .i64 b] σ (fun v τ => v = .bool (beside W a b) ∧ τ = σ) := by
  refine mcalls_of fn42 (by simp) ?_
  unfold c42 r42 beside
  have h0 : W ≠ 0 := by omega
  have d1 : 0 ≤ a.tdiv W ∧ a.tdiv W ≤ a := ⟨Int.tdiv_nonneg ha.1 (by omega), Int.tdiv_le_self _ ha.1⟩
  have d2 : 0 ≤ b.tdiv W ∧ b.tdiv W ≤ b := ⟨Int.tdiv_nonneg hb.1 (by omega), Int.tdiv_le_self _ hb.1⟩
  by_cases h : a.tdiv W = b.tdiv W
  · have h1 : (a.tdiv W == b.tdiv W) = true := by simpa using h
    rw [if_pos h]
    generalize hq1 : a.tdiv W = q1 at *
    generalize hq2 : b.tdiv W = q2 at *
    by_cases h2 : a = b + 1
    · have h2' : (a == b + 1) = true := by simpa using h2
      (have fx := And.intro hq1 (And.intro hq2 (And.intro h1 h2')); refine stepR ?_; clear fx)
      refine fin1 ⟨?_, rfl⟩
      simp only [go_sem, reduceIte, Nat.reduceEqDiff, reduceCtorEq, Nat.reduceAdd, Nat.reduceLeDiff, Int.reduceNeg, Int.reduceToNat, Int.reduceBEq, Int.reduceBNe, Int.reduceLT, Int.reduceLE, Int.reduceAdd, Int.reduceSub, h2', h2, Bool.true_or]
    · have h2' : (a == b + 1) = false := by simpa using h2
      (have fx := And.intro hq1 (And.intro hq2 (And.intro h1 h2')); refine stepR ?_; clear fx)
      refine fin1 ⟨?_, rfl⟩
      simp only [go_sem, reduceIte, Nat.reduceEqDiff, reduceCtorEq, Nat.reduceAdd, Nat.reduceLeDiff, Int.reduceNeg, Int.reduceToNat, Int.reduceBEq, Int.reduceBNe, Int.reduceLT, Int.reduceLE, Int.reduceAdd, Int.reduceSub, h2', h2, Bool.false_or]
      rw [Value.bool.injEq, Bool.eq_iff_iff]; simp
  · have h1 : (a.tdiv W == b.tdiv W) = false := by simpa using h
    rw [if_neg h]
    generalize hq1 : a.tdiv W = q1 at *
    generalize hq2 : b.tdiv W = q2 at *
    by_cases h2 : a = b + W
    · have h2' : (a == b + W) = true := by simpa using h2
      (have fx := And.intro hq1 (And.intro hq2 (And.intro h1 h2')); refine stepR ?_; clear fx)
      refine fin1 ⟨?_, rfl⟩
      simp only [go_sem, reduceIte, Nat.reduceEqDiff, reduceCtorEq, Nat.reduceAdd, Nat.reduceLeDiff, Int.reduceNeg, Int.reduceToNat, Int.reduceBEq, Int.reduceBNe, Int.reduceLT, Int.reduceLE, Int.reduceAdd, Int.reduceSub, h2', h2, Bool.true_or]
    · have h2' : (a == b + W) = false := by simpa using h2
      (have fx := And.intro hq1 (And.intro hq2 (And.intro h1 h2')); refine stepR ?_; clear fx)
      refine fin1 ⟨?_, rfl⟩
      simp only [go_sem, reduceIte, Nat.reduceEqDiff, reduceCtorEq, Nat.reduceAdd, Nat.reduceLeDiff, Int.reduceNeg, Int.reduceToNat, Int.reduceBEq, Int.reduceBNe, Int.reduceLT, Int.reduceLE, Int.reduceAdd, Int.reduceSub, h2', h2, Bool.false_or]
      rw [Value.bool.injEq, Bool.eq_iff_iff]; simp
structure RS (σ0 : H) (mid oid : Nat) (mv out : List Value) (τ : H) : Prop where
  ext : Ext σ0 τ
  out : τ.get oid = .cells 1 out
  map : τ.get mid = .cells 0 mv
  ho : σ0.size ≤ oid
theorem RS.set {σ0 τ τ' : H} {mid oid : Nat} {mv out out' : List Value} (h : RS σ0 mid oid mv out τ) (t : SetTo τ oid (.cells 1 out') τ') : RS σ0 mid oid mv out' τ' :=
  ⟨t.ext h.ext h.ho, t.self, t.cells h.map (fun e => by have := h.map; rw [e, h.out] at this; cases this), h.ho⟩
theorem opn_nat {S : ByteArray} {i : Nat} (hi : i < S.size) : ((((S.data.toList.getD i 0).toNat : Nat) : Int) != 35) = opn S i := by
  have := u8ne (S.data.toList.getD i 0) 35 (by omega)
  simp only [opn, bAt, Int.toNat_natCast]
  rw [decide_eq_true (show (0 : Int) ≤ (i : Int) by omega), decide_eq_true (show (i : Int) < (S.size : Int) by omega)]
  simpa using this

end Go.Proofs.YtepjinaomedecaaDoor
