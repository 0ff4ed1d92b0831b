import Derived.Test.YtepjinaomedecaaDoorGridB
namespace Go.Proofs.YtepjinaomedecaaDoor
open Go.Mini
open Go.Proofs.YtepjinaomedecaaDoor.Code
set_option linter.unusedVariables false
set_option linter.unusedSimpArgs false
set_option linter.ambiguousOpen false
attribute [local irreducible] mx ml mld mstep MCalls Ex.thn Ex.inb
variable {E : World → Prop}

theorem trimLeft_c (s : ByteArray) (id : Nat) (σ : H) (hlen : s.size ≤ 1000000) (hs : SetAt σ id) : MCalls E Tryd.prog 82 [.string s, .pointer (some ⟨id, 0, none⟩)] σ
    (fun v τ => τ = σ ∧ ∃ k, v = .string (s.extract k s.size) ∧ k ≤ s.size ∧ (∀ j, j < k → sign (s.data.toList.getD j 0) = true) ∧ (k = s.size ∨ sign (s.data.toList.getD k 0) = false)) := by
  obtain ⟨cs, hg, hv⟩ := hs
  refine mcalls_of fn82 (by simp) ?_
  unfold c82 r82
  refine stepR0 ?_
  refine mx_loop (fun n ts σ' => σ' = σ ∧ ∃ k, n = s.size - k ∧ ts 0 = .string (s.extract k s.size) ∧ ts 1 = .pointer (some ⟨id, 0, none⟩) ∧ k ≤ s.size ∧ ∀ j, j < k → sign (s.data.toList.getD j 0) = true) s.size ?_ ?_
  · refine ⟨rfl, 0, by omega, ?_, ?_, by omega, fun j h1 => by omega⟩
    · simp only [go_sem, reduceIte, Nat.reduceEqDiff, reduceCtorEq, Nat.reduceAdd, Nat.reduceLeDiff, Int.reduceNeg, Int.reduceToNat, Int.reduceBEq, Int.reduceBNe, Int.reduceLT, Int.reduceLE, Int.reduceAdd, Int.reduceSub]
      simp
    · simp only [go_sem, reduceIte, Nat.reduceEqDiff, reduceCtorEq, Nat.reduceAdd, Nat.reduceLeDiff, Int.reduceNeg, Int.reduceToNat, Int.reduceBEq, Int.reduceBNe, Int.reduceLT, Int.reduceLE, Int.reduceAdd, Int.reduceSub]
  rintro n ts _ ⟨rfl, k, hk, h0, h1, hn, hall⟩
  have hsz : (s.extract k s.size).size = s.size - k := by simp
  by_cases hz : k = s.size
  · have hsz' : (s.extract k s.size).size = 0 := by omega
    (have fx := And.intro h0 (And.intro h1 hsz'); refine stepR ?_; clear fx)
    refine fin1 ⟨rfl, k, ?_, by omega, fun j a => hall j a, .inl hz⟩
    simp only [go_sem, reduceIte, Nat.reduceEqDiff, reduceCtorEq, Nat.reduceAdd, Nat.reduceLeDiff, Int.reduceNeg, Int.reduceToNat, Int.reduceBEq, Int.reduceBNe, Int.reduceLT, Int.reduceLE, Int.reduceAdd, Int.reduceSub, h0]
  · (have fx := And.intro h0 (And.intro h1 hsz); refine stepR ?_; clear fx)
    have hb : (s.extract k s.size).data.toList.getD 0 0 = s.data.toList.getD k 0 := by
      rw [ext_getD _ _ _ _ (by omega)]; congr 1
    rw [show (0 : Int).toNat = 0 from rfl, hb]
    refine ml_call (have fx := h1; Sd) (have fx := h1; Sd) (asciiContains_c id _ _ cs _ hg (hv _)) ?_
    rintro _ _ ⟨rfl, rfl⟩
    cases hsg : sign (s.data.toList.getD k 0)
    · (have fx := And.intro h0 (And.intro h1 hsz); refine stepR ?_; clear fx)
      refine fin1 ⟨rfl, k, ?_, by omega, fun j a => hall j a, .inr hsg⟩
      simp only [go_sem, reduceIte, Nat.reduceEqDiff, reduceCtorEq, Nat.reduceAdd, Nat.reduceLeDiff, Int.reduceNeg, Int.reduceToNat, Int.reduceBEq, Int.reduceBNe, Int.reduceLT, Int.reduceLE, Int.reduceAdd, Int.reduceSub, h0]
    · (have fx := And.intro h0 (And.intro h1 hsz); refine stepR ?_; clear fx)
      refine ml_op Sd0 (o_slcS_lo (q := 1) (k := .i64) Sd0 Sd0 (by omega) (by omega)) ?_
      (have fx := And.intro h0 (And.intro h1 hsz); refine stepR ?_; clear fx)
      refine ⟨n - 1, by omega, rfl, k + 1, by omega, ?_, (have fx := h1; Sd), by omega, fun j a => ?_⟩
      · simp only [go_sem, reduceIte, Nat.reduceEqDiff, reduceCtorEq, Nat.reduceAdd, Nat.reduceLeDiff, Int.reduceNeg, Int.reduceToNat, Int.reduceBEq, Int.reduceBNe, Int.reduceLT, Int.reduceLE, Int.reduceAdd, Int.reduceSub]
        rw [ext_ext _ _ _ _ _ (by omega)]
        congr 2; omega
      · rcases Nat.eq_or_lt_of_le (Nat.le_of_lt_succ a) with e | e
        · rw [e]; exact hsg
        · exact hall j e

theorem makeSet_c (σ : H) : MCalls E Tryd.prog 81 [.string ⟨#[35, 46, 67, 80]⟩] σ (fun v τ => v = .tuple #[.agg (Lib.setCells [35, 46, 67, 80]), .bool true] ∧ τ = σ) := by
  refine mcalls_below 0 3 (by kernel_rfl) rfl (by kernel_rfl) fun w => (Tryd.strings_makeASCIISet (fun w => by kernel_rfl) ⟨#[35, 46, 67, 80]⟩ w (by decide) ?_).mono fun e w' ⟨he, hw⟩ => ⟨he, ?_⟩
  · intro j b hb
    have := List.mem_of_getElem? hb
    simp at this
    rcases this with rfl | rfl | rfl | rfl <;> decide
  · rw [hw]
    exact (Go.RowKit.Below.refl _ w).alloc (Nat.le_refl _) _

theorem set_at (b : UInt8) : (Lib.setCells [35, 46, 67, 80]).toList[b.toNat]? = some (.bool (sign b)) := by
  have : ((List.range 256).all fun n => match (Lib.setCells [35, 46, 67, 80]).toList[n]? with | some (.bool x) => x == sign (UInt8.ofNat n) | _ => false) = true := by kernel_rfl
  have h := List.all_eq_true.1 this b.toNat (List.mem_range.2 b.toNat_lt)
  have e : UInt8.ofNat b.toNat = b := by simp
  rw [e] at h
  split at h
  · rename_i x hx; rw [hx, eq_of_beq h]
  · cases h
theorem trim_c (s : ByteArray) (σ : H) (hlen : s.size ≤ 1000000) : MCalls E Tryd.prog 62 [.string s, .string ⟨#[35, 46, 67, 80]⟩] σ
    (fun v τ => Ext σ τ ∧ ∃ T, v = .string T ∧ (T.size = 0 ↔ ∀ j, j < s.size → sign (s.data.toList.getD j 0) = true)) := by
  refine mcalls_of fn62 (by simp) ?_
  unfold c62 r62
  have hcs : ((⟨#[35, 46, 67, 80]⟩ : ByteArray).toList == (⟨#[]⟩ : ByteArray).toList) = false := by decide +kernel
  have hcz : (⟨#[35, 46, 67, 80]⟩ : ByteArray).size = 4 := rfl
  by_cases h0 : s.toList == (⟨#[]⟩ : ByteArray).toList
  · (have fx := h0; refine stepR ?_; clear fx)
    refine fin1 ⟨.refl _, s, ?_, ?_⟩
    · simp only [go_sem, reduceIte, Nat.reduceEqDiff, reduceCtorEq, Nat.reduceAdd, Nat.reduceLeDiff, Int.reduceNeg, Int.reduceToNat, Int.reduceBEq, Int.reduceBNe, Int.reduceLT, Int.reduceLE, Int.reduceAdd, Int.reduceSub]
    · have : s.size = 0 := by
        have := eq_of_beq h0
        rw [toList_data, toList_data] at this; simpa using congrArg List.length this
      exact ⟨fun _ j h => by omega, fun _ => this⟩
  · simp only [Bool.not_eq_true] at h0
    (have fx := And.intro h0 (And.intro hcs hcz); refine stepR ?_; clear fx)
    have hset := set_at
    have hsize : (Lib.setCells [35, 46, 67, 80]).size = 256 := by kernel_rfl
    have hone : (Lib.setCells [35, 46, 67, 80]).toList.all one = true := by kernel_rfl
    refine ml_call Sd0 Sd0 (makeSet_c _) ?_
    generalize (Lib.setCells [35, 46, 67, 80]) = C at hset hsize hone
    rintro _ τ0 ⟨rfl, rfl⟩
    refine stepR0 ?_
    refine ml_op Sd0 (o_storeAll (id := τ0.size) (cs := List.replicate 256 (.bool false)) Sd0 Sd0 (H.get_push_self _ _) hsize List.length_replicate hone) ?_
    refine stepR0 ?_
    have hSet : SetAt ((τ0.push (.cells 0 (List.replicate 256 (.bool false)))).set τ0.size (.cells 0 C.toList)) τ0.size := ⟨C.toList, H.get_set_self (by rw [H.size_push]; omega), hset⟩
    refine ml_call Sd0 Sd0 (trimRight_c s τ0.size _ hlen hSet) ?_
    rintro _ _ ⟨rfl, k, rfl, hk, hk1, hk2⟩
    have hsk : (s.extract 0 k).size = k := by simp; omega
    refine ml_call Sd0 Sd0 (trimLeft_c (s.extract 0 k) τ0.size _ (by omega) hSet) ?_
    rintro _ _ ⟨rfl, j, rfl, hj, hj1, hj2⟩
    refine stepR0 ?_
    refine fin1 ⟨(Ext.push _ _).set' (Nat.le_refl _) _, _, Sd0, ?_⟩
    rw [hsk] at hj hj2 ⊢
    have hT : ((s.extract 0 k).extract j k).size = k - j := by simp; omega
    rw [hT]
    have hget : ∀ i, i < k → (s.extract 0 k).data.toList.getD i 0 = s.data.toList.getD i 0 := fun i hi => by
      rw [ext_getD _ _ _ _ (by omega)]; congr 1; omega
    constructor
    · intro hz i hi
      have hjk : j = k := by omega
      by_cases hik : i < k
      · rw [← hget i hik]; exact hj1 i (by omega)
      · exact hk1 i (by omega) hi
    · intro hall
      rcases hj2 with e | e
      · omega
      · by_cases hjk : j < k
        · rw [hget j hjk, hall j (by omega)] at e; cases e
        · omega
end Go.Proofs.YtepjinaomedecaaDoor
namespace Go.Proofs.YtepjinaomedecaaDoor
open Go.Mini
open Go.Proofs.YtepjinaomedecaaDoor.Code
set_option linter.unusedVariables false
set_option linter.unusedSimpArgs false
set_option linter.ambiguousOpen false
attribute [local irreducible] mx ml mld mstep MCalls Ex.thn Ex.inb
variable {E : World → Prop}

theorem sign_lt {b : UInt8} (hb : sign b = true) : b.toNat < 128 := by
  simp only [sign, Bool.or_eq_true, beq_iff_eq] at hb
  rcases hb with ((rfl | rfl) | rfl) | rfl <;> decide
theorem getD_get (s : ByteArray) (i : Nat) (h : i < s.size) : s.data.toList.getD i 0 = s[i]'h := by
  rw [List.getD_eq_getElem?_getD, List.getElem?_eq_getElem (by simpa using h)]; rfl

theorem indexFunc_c (s : ByteArray) (σ : H) (hs : ∀ j, j < s.size → sign (s.data.toList.getD j 0) = true) :
    MCalls E Tryd.prog 100 [.string s, .func (.func 64) #[] #[], .bool true] σ (fun v τ => v = .int .i64 (-1) ∧ τ = σ) := by
  refine mcalls_below 1 0 (by kernel_rfl) rfl rfl fun w => Tryd.indexFunc_none 64 s w (fun i hi => ?_) (fun i hi W => ?_) (fun args w => by kernel_rfl)
  · have := hs i hi; rw [getD_get s i hi] at this; exact sign_lt this
  · have := hs i hi; rw [getD_get s i hi] at this
    exact calls_of_mcalls (E := fun _ => True) 0 0 rfl rfl (sized2_c _ this _) W trivial

theorem containsFunc_c (s : ByteArray) (σ : H) (hs : ∀ j, j < s.size → sign (s.data.toList.getD j 0) = true) :
    MCalls E Tryd.prog 63 [.string s, .func (.func 64) #[] #[]] σ (fun v τ => v = .bool false ∧ τ = σ) := by
  refine mcalls_of fn63 (by simp) ?_
  unfold c63 r63
  have h1 : MCalls E Tryd.prog 86 [.string s, .func (.func 64) #[] #[]] σ (fun v τ => v = .int .i64 (-1) ∧ τ = σ) := by
    refine mcalls_of fn86 (by simp) ?_
    unfold c86 r86
    refine stepR0 ?_
    refine ml_call Sd0 Sd0 (indexFunc_c s _ hs) ?_
    rintro _ _ ⟨rfl, rfl⟩
    refine stepR0 ?_
    exact fin1 ⟨Sd0, rfl⟩
  refine stepR0 ?_
  refine ml_call Sd0 Sd0 h1 ?_
  rintro _ _ ⟨rfl, rfl⟩
  refine stepR0 ?_
  exact fin1 ⟨Sd0, rfl⟩

def szd (W Hh : Int) (S : ByteArray) : Bool := (decide (1 ≤ W) && decide (W ≤ 8)) && (decide (1 ≤ Hh) && decide (Hh ≤ 8)) && ((S.size : Int) == W * Hh) && S.data.toList.all sign
theorem mul_le64 {W Hh : Int} (h : 1 ≤ W ∧ W ≤ 8) (k : 1 ≤ Hh ∧ Hh ≤ 8) : 1 ≤ W * Hh ∧ W * Hh ≤ 64 := by
  have h1 : 1 * 1 ≤ W * Hh := Int.mul_le_mul h.1 k.1 (by omega) (by omega)
  have h2 : W * Hh ≤ 8 * 8 := Int.mul_le_mul h.2 k.2 (by omega) (by omega)
  omega
theorem all_getD (s : ByteArray) : s.data.toList.all sign = true ↔ ∀ j, j < s.size → sign (s.data.toList.getD j 0) = true := by
  rw [List.all_eq_true]
  constructor
  · intro h j hj
    refine h _ ?_
    rw [List.getD_eq_getElem?_getD, List.getElem?_eq_getElem (by simpa using hj)]
    exact List.getElem_mem _
  · intro h b hb
    obtain ⟨i, hi, rfl⟩ := List.getElem_of_mem hb
    have := h i (by simpa using hi)
    rwa [List.getD_eq_getElem?_getD, List.getElem?_eq_getElem hi] at this

theorem sized_c (W Hh : Int) (S : ByteArray) (σ : H) : MCalls E Tryd.prog 38 [mapV W Hh S] σ (fun v τ => v = .bool (szd W Hh S) ∧ Ext σ τ) := by
  refine mcalls_of fn38 (by simp) ?_
  unfold c38 r38 mapV
  refine stepR0 ?_
  refine ml_callv Sd0 Sd0 Sd0 (sized1_c W _) ?_
  rintro _ _ ⟨rfl, rfl⟩
  cases hW : decide (1 ≤ W) && decide (W ≤ 8)
  · (have fx := hW; refine stepR ?_; clear fx)
    refine fin1 ⟨?_, Ext.push _ _⟩
    simp only [go_sem, reduceIte, Nat.reduceEqDiff, reduceCtorEq, Nat.reduceAdd, Nat.reduceLeDiff, Int.reduceNeg, Int.reduceToNat, Int.reduceBEq, Int.reduceBNe, Int.reduceLT, Int.reduceLE, Int.reduceAdd, Int.reduceSub, szd, hW, Bool.false_and]
  (have fx := hW; refine stepR ?_; clear fx)
  refine ml_callv Sd0 Sd0 Sd0 (sized1_c Hh _) ?_
  rintro _ _ ⟨rfl, rfl⟩
  cases hH : decide (1 ≤ Hh) && decide (Hh ≤ 8)
  · (have fx := hH; refine stepR ?_; clear fx)
    refine fin1 ⟨?_, Ext.push _ _⟩
    simp only [go_sem, reduceIte, Nat.reduceEqDiff, reduceCtorEq, Nat.reduceAdd, Nat.reduceLeDiff, Int.reduceNeg, Int.reduceToNat, Int.reduceBEq, Int.reduceBNe, Int.reduceLT, Int.reduceLE, Int.reduceAdd, Int.reduceSub, szd, hW, hH, Bool.false_and, Bool.and_false]
  have hm := mul_le64 (W := W) (Hh := Hh) (by simpa using hW) (by simpa using hH)
  cases hL : (S.size : Int) == W * Hh
  · (have fx := And.intro hH hL; refine stepR ?_; clear fx)
    refine fin1 ⟨?_, Ext.push _ _⟩
    simp only [go_sem, reduceIte, Nat.reduceEqDiff, reduceCtorEq, Nat.reduceAdd, Nat.reduceLeDiff, Int.reduceNeg, Int.reduceToNat, Int.reduceBEq, Int.reduceBNe, Int.reduceLT, Int.reduceLE, Int.reduceAdd, Int.reduceSub, szd, hW, hH, hL, Bool.false_and, Bool.and_false]
  (have fx := And.intro hH hL; refine stepR ?_; clear fx)
  have hsz : S.size ≤ 64 := by have := eq_of_beq hL; omega
  refine ml_call Sd0 Sd0 (trim_c S _ (by omega)) ?_
  rintro _ τ ⟨e1, T, rfl, hT⟩
  have g1 := e1.cells (H.get_push_self σ _)
  have hTe : (T.toList == (⟨#[]⟩ : ByteArray).toList) = decide (T.size = 0) := by
    rw [toList_data, Bool.eq_iff_iff, beq_iff_eq, decide_eq_true_eq, toList_data]
    constructor
    · intro h; simpa using congrArg List.length h
    · intro h
      have : T.data.toList.length = 0 := by simpa using h
      exact List.eq_nil_of_length_eq_zero this
  have hx : Ext σ τ := (Ext.push _ _).trans e1
  cases hA : S.data.toList.all sign
  · have hno : decide (T.size = 0) = false := by
      rw [decide_eq_false_iff_not, hT, ← all_getD, hA]; simp
    rw [hno] at hTe
    (have fx := hTe; refine stepR ?_; clear fx)
    refine fin1 ⟨?_, hx⟩
    simp only [go_sem, reduceIte, Nat.reduceEqDiff, reduceCtorEq, Nat.reduceAdd, Nat.reduceLeDiff, Int.reduceNeg, Int.reduceToNat, Int.reduceBEq, Int.reduceBNe, Int.reduceLT, Int.reduceLE, Int.reduceAdd, Int.reduceSub, szd, hW, hH, hL, hA, Bool.false_and, Bool.and_false]
  · have hyes : decide (T.size = 0) = true := by
      rw [decide_eq_true_eq, hT, ← all_getD, hA]
    rw [hyes] at hTe
    (have fx := And.intro hTe g1; refine stepR ?_; clear fx)
    refine ml_call Sd0 Sd0 (containsFunc_c S τ ((all_getD S).1 hA)) ?_
    rintro _ _ ⟨rfl, rfl⟩
    refine stepR0 ?_
    refine fin1 ⟨?_, hx⟩
    simp only [go_sem, reduceIte, Nat.reduceEqDiff, reduceCtorEq, Nat.reduceAdd, Nat.reduceLeDiff, Int.reduceNeg, Int.reduceToNat, Int.reduceBEq, Int.reduceBNe, Int.reduceLT, Int.reduceLE, Int.reduceAdd, Int.reduceSub, szd, hW, hH, hL, hA]
    try rfl

theorem szd_spec {W Hh : Int} {S : ByteArray} (h : szd W Hh S = true) : (1 ≤ W ∧ W ≤ 8) ∧ (1 ≤ Hh ∧ Hh ≤ 8) ∧ (S.size : Int) = W * Hh ∧ S.data.toList.all sign = true := by
  simp only [szd, Bool.and_eq_true, decide_eq_true_eq, beq_iff_eq] at h
  exact ⟨h.1.1.1, h.1.1.2, h.1.2, h.2⟩
end Go.Proofs.YtepjinaomedecaaDoor
