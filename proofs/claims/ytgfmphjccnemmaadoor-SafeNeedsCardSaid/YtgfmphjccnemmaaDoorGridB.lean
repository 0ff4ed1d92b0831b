import Derived.Test.YtgfmphjccnemmaaDoorCode
import Derived.Test.YtgfmphjccnemmaaDoorBase
import Derived.Test.YtgfmphjccnemmaaDoorIdxFunc
import Derived.Test.YtgfmphjccnemmaaDoorShelf
namespace Go.Proofs.YtgfmphjccnemmaaDoor
open Go.Mini
open Go.Proofs.YtgfmphjccnemmaaDoor.Code
set_option linter.unusedVariables false
set_option linter.unusedSimpArgs false
set_option linter.ambiguousOpen false
attribute [local irreducible] mx ml mld mstep MCalls Ex.thn Ex.inb

/-- The signs. -/
def sign (b : UInt8) : Bool := b == 35 || b == 46 || b == 67 || b == 80

theorem sized1_c (n : Int) (σ : H) : MCalls Tryd.prog 63 [.int .i64 n] σ (fun v τ => v = .bool (decide (1 ≤ n) && decide (n ≤ 8)) ∧ τ = σ) := by
  refine mcalls_of fn63 (by simp) ?_
  unfold c63 r63
  by_cases h0 : 1 ≤ n
  · (have fx := h0; refine stepR ?_; clear fx)
    refine fin1 ⟨?_, rfl⟩
    simp only [go_sem, reduceIte, Nat.reduceEqDiff, reduceCtorEq, Nat.reduceAdd, Nat.reduceLeDiff, Int.reduceNeg, Int.reduceToNat, Int.reduceBEq, Int.reduceBNe, Int.reduceLT, Int.reduceLE, Int.reduceAdd, Int.reduceSub, h0, Bool.true_and]
  · (have fx := h0; refine stepR ?_; clear fx)
    refine fin1 ⟨?_, rfl⟩
    simp only [go_sem, reduceIte, Nat.reduceEqDiff, reduceCtorEq, Nat.reduceAdd, Nat.reduceLeDiff, Int.reduceNeg, Int.reduceToNat, Int.reduceBEq, Int.reduceBNe, Int.reduceLT, Int.reduceLE, Int.reduceAdd, Int.reduceSub, h0, Bool.false_and]

theorem sized2_c (b : UInt8) (hb : sign b = true) (σ : H) : MCalls Tryd.prog 66 [.int .i32 b.toNat] σ (fun v τ => v = .bool false) := by
  refine mcalls_of fn66 (by simp) ?_
  unfold c66 r66
  have hlt : b.toNat < 128 := by
    simp only [sign, Bool.or_eq_true, beq_iff_eq] at hb
    rcases hb with ((rfl | rfl) | rfl) | rfl <;> decide
  have hc : MCalls Tryd.prog 67 [.string ⟨#[35, 46, 67, 80]⟩, .int .i32 b.toNat] σ (fun v τ => v = .bool true ∧ τ = σ) := by
    refine mcalls_same 0 0 (by kernel_rfl) rfl rfl fun w => (Tryd.strings_ContainsRune_ascii _ _ w (by omega) (by omega)).mono fun e w' ⟨he, hw⟩ => ⟨?_, hw⟩
    rw [he]
    simp only [sign, Bool.or_eq_true, beq_iff_eq] at hb
    rcases hb with ((rfl | rfl) | rfl) | rfl <;> rfl
  refine stepR0 ?_
  refine ml_call Sd0 Sd0 hc ?_
  rintro _ _ ⟨rfl, rfl⟩
  refine stepR0 ?_
  refine fin1 ?_
  simp only [go_sem, reduceIte, Nat.reduceEqDiff, reduceCtorEq, Nat.reduceAdd, Nat.reduceLeDiff, Int.reduceNeg, Int.reduceToNat, Int.reduceBEq, Int.reduceBNe, Int.reduceLT, Int.reduceLE, Int.reduceAdd, Int.reduceSub]

theorem asciiContains_c (id : Nat) (b : UInt8) (v : Bool) (cs : List Value) (σ : H) (hg : σ.get id = .cells 0 cs) (hv : cs[b.toNat]? = some (.bool v)) :
    MCalls Tryd.prog 106 [.pointer (some ⟨id, 0, none⟩), .int .u8 b.toNat] σ (fun v' τ => v' = .bool v ∧ τ = σ) := by
  refine mcalls_of fn106 (by simp) ?_
  unfold c106 r106
  have hb := b.toNat_lt
  (have fx := And.intro hg hv; refine stepR ?_; clear fx)
  refine fin1 ⟨?_, rfl⟩
  simp only [go_sem, reduceIte, Nat.reduceEqDiff, reduceCtorEq, Nat.reduceAdd, Nat.reduceLeDiff, Int.reduceNeg, Int.reduceToNat, Int.reduceBEq, Int.reduceBNe, Int.reduceLT, Int.reduceLE, Int.reduceAdd, Int.reduceSub]

/-! ## strings.Trim with the signs -/
/-- The set lies at an object. -/
def SetAt (σ : H) (id : Nat) : Prop := ∃ cs, σ.get id = .cells 0 cs ∧ ∀ b : UInt8, cs[b.toNat]? = some (.bool (sign b))

theorem trimRight_c (s : ByteArray) (id : Nat) (σ : H) (hlen : s.size ≤ 1000000) (hs : SetAt σ id) : MCalls Tryd.prog 89 [.string s, .pointer (some ⟨id, 0, none⟩)] σ
    (fun v τ => τ = σ ∧ ∃ k, v = .string (s.extract 0 k) ∧ k ≤ s.size ∧ (∀ j, k ≤ j → j < s.size → sign (s.data.toList.getD j 0) = true) ∧ (k = 0 ∨ sign (s.data.toList.getD (k - 1) 0) = false)) := by
  obtain ⟨cs, hg, hv⟩ := hs
  refine mcalls_of fn89 (by simp) ?_
  unfold c89 r89
  refine stepR0 ?_
  refine mx_loop (fun n ts σ' => σ' = σ ∧ ts 0 = .string (s.extract 0 n) ∧ ts 1 = .pointer (some ⟨id, 0, none⟩) ∧ n ≤ s.size ∧ ∀ j, n ≤ j → j < s.size → sign (s.data.toList.getD j 0) = true) s.size ?_ ?_
  · refine ⟨rfl, ?_, ?_, Nat.le_refl _, fun j h1 h2 => by omega⟩
    · simp only [go_sem, reduceIte, Nat.reduceEqDiff, reduceCtorEq, Nat.reduceAdd, Nat.reduceLeDiff, Int.reduceNeg, Int.reduceToNat, Int.reduceBEq, Int.reduceBNe, Int.reduceLT, Int.reduceLE, Int.reduceAdd, Int.reduceSub]
      simp
    · simp only [go_sem, reduceIte, Nat.reduceEqDiff, reduceCtorEq, Nat.reduceAdd, Nat.reduceLeDiff, Int.reduceNeg, Int.reduceToNat, Int.reduceBEq, Int.reduceBNe, Int.reduceLT, Int.reduceLE, Int.reduceAdd, Int.reduceSub]
  rintro n ts _ ⟨rfl, h0, h1, hn, hall⟩
  have hsz : (s.extract 0 n).size = n := by simp; omega
  by_cases hz : n = 0
  · subst hz
    (have fx := And.intro h0 (And.intro h1 hsz); refine stepR ?_; clear fx)
    refine fin1 ⟨rfl, 0, ?_, by omega, fun j a b => hall j a b, .inl rfl⟩
    simp only [go_sem, reduceIte, Nat.reduceEqDiff, reduceCtorEq, Nat.reduceAdd, Nat.reduceLeDiff, Int.reduceNeg, Int.reduceToNat, Int.reduceBEq, Int.reduceBNe, Int.reduceLT, Int.reduceLE, Int.reduceAdd, Int.reduceSub, h0]
  · (have fx := And.intro h0 (And.intro h1 hsz); refine stepR ?_; clear fx)
    have hb : (s.extract 0 n).data.toList.getD ((n : Int) - 1).toNat 0 = s.data.toList.getD (n - 1) 0 := by
      rw [ext_getD _ _ _ _ (by omega)]; congr 1; omega
    rw [hb]
    refine ml_call (have fx := h1; Sd) (have fx := h1; Sd) (asciiContains_c id _ _ cs _ hg (hv _)) ?_
    rintro _ _ ⟨rfl, rfl⟩
    cases hsg : sign (s.data.toList.getD (n - 1) 0)
    · (have fx := And.intro h0 (And.intro h1 hsz); refine stepR ?_; clear fx)
      refine fin1 ⟨rfl, n, ?_, by omega, fun j a b => hall j a b, .inr hsg⟩
      simp only [go_sem, reduceIte, Nat.reduceEqDiff, reduceCtorEq, Nat.reduceAdd, Nat.reduceLeDiff, Int.reduceNeg, Int.reduceToNat, Int.reduceBEq, Int.reduceBNe, Int.reduceLT, Int.reduceLE, Int.reduceAdd, Int.reduceSub, h0]
    · (have fx := And.intro h0 (And.intro h1 hsz); refine stepR ?_; clear fx)
      refine ml_op Sd0 (o_slcS_hi (q := (n : Int) - 1) (k := .i64) Sd0 Sd0 (by omega) (by omega)) ?_
      (have fx := And.intro h0 (And.intro h1 hsz); refine stepR ?_; clear fx)
      refine ⟨n - 1, by omega, rfl, ?_, (have fx := h1; Sd), by omega, fun j a b => ?_⟩
      · simp only [go_sem, reduceIte, Nat.reduceEqDiff, reduceCtorEq, Nat.reduceAdd, Nat.reduceLeDiff, Int.reduceNeg, Int.reduceToNat, Int.reduceBEq, Int.reduceBNe, Int.reduceLT, Int.reduceLE, Int.reduceAdd, Int.reduceSub]
        rw [ext_ext _ _ _ _ _ (by omega)]
        congr 2; omega
      · rcases Nat.eq_or_lt_of_le a with e | e
        · rw [← e]; exact hsg
        · exact hall j (by omega) b
end Go.Proofs.YtgfmphjccnemmaaDoor
