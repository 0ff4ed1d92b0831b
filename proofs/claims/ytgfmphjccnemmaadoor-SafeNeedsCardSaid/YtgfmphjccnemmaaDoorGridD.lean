import Derived.Test.YtgfmphjccnemmaaDoorGridA
import Derived.Test.YtgfmphjccnemmaaDoorGridC
namespace Go.Proofs.YtgfmphjccnemmaaDoor
open Go.Mini
open Go.Proofs.YtgfmphjccnemmaaDoor.Code
set_option linter.unusedVariables false
set_option linter.unusedSimpArgs false
set_option linter.ambiguousOpen false
attribute [local irreducible] mx ml mld mstep MCalls Ex.thn Ex.inb

theorem sign_lt {b : UInt8} (hb : sign b = true) : b.toNat < 128 := by
  simp only [sign, Bool.or_eq_true, beq_iff_eq] at hb
  rcases hb with ((rfl | rfl) | rfl) | rfl <;> decide
theorem getD_get (s : ByteArray) (i : Nat) (h : i < s.size) : s.data.toList.getD i 0 = s[i]'h := by
  rw [List.getD_eq_getElem?_getD, List.getElem?_eq_getElem (by simpa using h)]; rfl

theorem indexFunc_c (s : ByteArray) (σ : H) (hs : ∀ j, j < s.size → sign (s.data.toList.getD j 0) = true) :
    MCalls Tryd.prog 109 [.string s, .func (.func 66) #[] #[], .bool true] σ (fun v τ => v = .int .i64 (-1) ∧ τ = σ) := by
  refine mcalls_below 1 0 (by kernel_rfl) rfl rfl fun w => Tryd.indexFunc_none 66 s w (fun i hi => ?_) (fun i hi W => ?_) (fun args w => by kernel_rfl)
  · have := hs i hi; rw [getD_get s i hi] at this; exact sign_lt this
  · have := hs i hi; rw [getD_get s i hi] at this
    exact calls_of_mcalls 0 0 rfl rfl (sized2_c _ this _) W

theorem containsFunc_c (s : ByteArray) (σ : H) (hs : ∀ j, j < s.size → sign (s.data.toList.getD j 0) = true) :
    MCalls Tryd.prog 65 [.string s, .func (.func 66) #[] #[]] σ (fun v τ => v = .bool false ∧ τ = σ) := by
  refine mcalls_of fn65 (by simp) ?_
  unfold c65 r65
  have h1 : MCalls Tryd.prog 92 [.string s, .func (.func 66) #[] #[]] σ (fun v τ => v = .int .i64 (-1) ∧ τ = σ) := by
    refine mcalls_of fn92 (by simp) ?_
    unfold c92 r92
    refine stepR0 ?_
    refine ml_call Sd0 Sd0 (indexFunc_c s _ hs) ?_
    rintro _ _ ⟨rfl, rfl⟩
    refine stepR0 ?_
    exact fin1 ⟨Sd0, rfl⟩
  refine stepR0 ?_
  refine ml_call Sd0 Sd0 h1 ?_
  rintro _ _ ⟨rfl, rfl⟩
  refine stepR0 ?_
  exact fin1 ⟨Sd0, rfl⟩

def szd (W Hh : Int) (S : ByteArray) : Bool := (decide (1 ≤ W) && decide (W ≤ 8)) && (decide (1 ≤ Hh) && decide (Hh ≤ 8)) && ((S.size : Int) == W * Hh) && S.data.toList.all sign
theorem mul_le64 {W Hh : Int} (h : 1 ≤ W ∧ W ≤ 8) (k : 1 ≤ Hh ∧ Hh ≤ 8) : 1 ≤ W * Hh ∧ W * Hh ≤ 64 := by
  have h1 : 1 * 1 ≤ W * Hh := Int.mul_le_mul h.1 k.1 (by omega) (by omega)
  have h2 : W * Hh ≤ 8 * 8 := Int.mul_le_mul h.2 k.2 (by omega) (by omega)
  omega
theorem all_getD (s : ByteArray) : s.data.toList.all sign = true ↔ ∀ j, j < s.size → sign (s.data.toList.getD j 0) = true := by
  rw [List.all_eq_true]
  constructor
  · intro h j hj
    refine h _ ?_
    rw [List.getD_eq_getElem?_getD, List.getElem?_eq_getElem (by simpa using hj)]
    exact List.getElem_mem _
  · intro h b hb
    obtain ⟨i, hi, rfl⟩ := List.getElem_of_mem hb
    have := h i (by simpa using hi)
    rwa [List.getD_eq_getElem?_getD, List.getElem?_eq_getElem hi] at this

theorem sized_c (W Hh : Int) (S : ByteArray) (σ : H) : MCalls Tryd.prog 44 [mapV W Hh S] σ (fun v τ => v = .bool (szd W Hh S) ∧ Ext σ τ) := by
  refine mcalls_of fn44 (by simp) ?_
  unfold c44 r44 mapV
  refine stepR0 ?_
  refine ml_callv Sd0 Sd0 Sd0 (sized1_c W _) ?_
  rintro _ _ ⟨rfl, rfl⟩
  cases hW : decide (1 ≤ W) && decide (W ≤ 8)
  · (have fx := hW; refine stepR ?_; clear fx)
    refine fin1 ⟨?_, Ext.push _ _⟩
    simp only [go_sem, reduceIte, Nat.reduceEqDiff, reduceCtorEq, Nat.reduceAdd, Nat.reduceLeDiff, Int.reduceNeg, Int.reduceToNat, Int.reduceBEq, Int.reduceBNe, Int.reduceLT, Int.reduceLE, Int.reduceAdd, Int.reduceSub, szd, hW, Bool.false_and]
  (have fx := hW; refine stepR ?_; clear fx)
  refine ml_callv Sd0 Sd0 Sd0 (sized1_c Hh _) ?_
  rintro _ _ ⟨rfl, rfl⟩
  cases hH : decide (1 ≤ Hh) && decide (Hh ≤ 8)
  · (have fx := hH; refine stepR ?_; clear fx)
    refine fin1 ⟨?_, Ext.push _ _⟩
    simp only [go_sem, reduceIte, Nat.reduceEqDiff, reduceCtorEq, Nat.reduceAdd, Nat.reduceLeDiff, Int.reduceNeg, Int.reduceToNat, Int.reduceBEq, Int.reduceBNe, Int.reduceLT, Int.reduceLE, Int.reduceAdd, Int.reduceSub, szd, hW, hH, Bool.false_and, Bool.and_false]
  have hm := mul_le64 (W := W) (Hh := Hh) (by simpa using hW) (by simpa using hH)
  cases hL : (S.size : Int) == W * Hh
  · (have fx := And.intro hH hL; refine stepR ?_; clear fx)
    refine fin1 ⟨?_, Ext.push _ _⟩
    simp only [go_sem, reduceIte, Nat.reduceEqDiff, reduceCtorEq, Nat.reduceAdd, Nat.reduceLeDiff, Int.reduceNeg, Int.reduceToNat, Int.reduceBEq, Int.reduceBNe, Int.reduceLT, Int.reduceLE, Int.reduceAdd, Int.reduceSub, szd, hW, hH, hL, Bool.false_and, Bool.and_false]
  (have fx := And.intro hH hL; refine stepR ?_; clear fx)
  have hsz : S.size ≤ 64 := by have := eq_of_beq hL; omega
  refine ml_call Sd0 Sd0 (trim_c S _ (by omega)) ?_
  rintro _ τ ⟨e1, T, rfl, hT⟩
  have g1 := e1.cells (H.get_push_self σ _)
  have hTe : (T.toList == (⟨#[]⟩ : ByteArray).toList) = decide (T.size = 0) := by
    rw [toList_data, Bool.eq_iff_iff, beq_iff_eq, decide_eq_true_eq, toList_data]
    constructor
    · intro h; simpa using congrArg List.length h
    · intro h
      have : T.data.toList.length = 0 := by simpa using h
      exact List.eq_nil_of_length_eq_zero this
  have hx : Ext σ τ := (Ext.push _ _).trans e1
  cases hA : S.data.toList.all sign
  · have hno : decide (T.size = 0) = false := by
      rw [decide_eq_false_iff_not, hT, ← all_getD, hA]; simp
    rw [hno] at hTe
    (have fx := hTe; refine stepR ?_; clear fx)
    refine fin1 ⟨?_, hx⟩
    simp only [go_sem, reduceIte, Nat.reduceEqDiff, reduceCtorEq, Nat.reduceAdd, Nat.reduceLeDiff, Int.reduceNeg, Int.reduceToNat, Int.reduceBEq, Int.reduceBNe, Int.reduceLT, Int.reduceLE, Int.reduceAdd, Int.reduceSub, szd, hW, hH, hL, hA, Bool.false_and, Bool.and_false]
  · have hyes : decide (T.size = 0) = true := by
      rw [decide_eq_true_eq, hT, ← all_getD, hA]
    rw [hyes] at hTe
    (have fx := And.intro hTe g1; refine stepR ?_; clear fx)
    refine ml_call Sd0 Sd0 (containsFunc_c S τ ((all_getD S).1 hA)) ?_
    rintro _ _ ⟨rfl, rfl⟩
    refine stepR0 ?_
    refine fin1 ⟨?_, hx⟩
    simp only [go_sem, reduceIte, Nat.reduceEqDiff, reduceCtorEq, Nat.reduceAdd, Nat.reduceLeDiff, Int.reduceNeg, Int.reduceToNat, Int.reduceBEq, Int.reduceBNe, Int.reduceLT, Int.reduceLE, Int.reduceAdd, Int.reduceSub, szd, hW, hH, hL, hA]
    try rfl

theorem szd_spec {W Hh : Int} {S : ByteArray} (h : szd W Hh S = true) : (1 ≤ W ∧ W ≤ 8) ∧ (1 ≤ Hh ∧ Hh ≤ 8) ∧ (S.size : Int) = W * Hh ∧ S.data.toList.all sign = true := by
  simp only [szd, Bool.and_eq_true, decide_eq_true_eq, beq_iff_eq] at h
  exact ⟨h.1.1.1, h.1.1.2, h.1.2, h.2⟩
end Go.Proofs.YtgfmphjccnemmaaDoor
