import Derived.Test.YtgfmphjccnemmaaDoorCode
import Derived.Test.YtgfmphjccnemmaaDoorBase2
namespace Go.Proofs.YtgfmphjccnemmaaDoor
open Go.Mini
open Go.Proofs.YtgfmphjccnemmaaDoor.Code
set_option linter.unusedVariables false
set_option linter.unusedSimpArgs false
set_option linter.ambiguousOpen false
attribute [local irreducible] mx ml mld mstep MCalls Ex.thn Ex.inb

/-! ## A heap's items -/
abbrev Due := Int × Int
def lt (a b : Due) : Bool := if a.1 ≠ b.1 then decide (a.1 < b.1) else decide (a.2 < b.2)
def dueV (a : Due) : Value := .agg #[.int .i64 a.1, .int .i64 a.2]
attribute [go_sem] dueV
def dues : List Due → List Value
  | [] => []
  | p :: l => .int .i64 p.1 :: .int .i64 p.2 :: dues l
theorem dues_len : ∀ l : List Due, (dues l).length = l.length * 2
  | [] => rfl
  | p :: l => by simp only [dues, List.length_cons, dues_len l]; omega
theorem dues_app : ∀ a b : List Due, dues (a ++ b) = dues a ++ dues b
  | [], _ => rfl
  | p :: a, b => by simp only [List.cons_append, dues, dues_app a b]
theorem dues_one : ∀ l : List Due, (dues l).all one = true
  | [] => rfl
  | p :: l => by simp only [dues, List.all_cons, dues_one l, Bool.and_true]; rfl
theorem dues_row : ∀ (l : List Due) (i : Nat), i < l.length → rowL (dues l) (i * 2) 2 = some [.int .i64 (l.getD i (0, 0)).1, .int .i64 (l.getD i (0, 0)).2]
  | [], i, h => absurd h (Nat.not_lt_zero _)
  | p :: l, 0, _ => rfl
  | p :: l, i + 1, h => by
    have := dues_row l i (by simpa using h)
    simp only [rowL] at this ⊢
    rw [show (i + 1) * 2 = i * 2 + 1 + 1 by omega]
    simpa [dues] using this
theorem dues_spl : ∀ (l : List Due) (i : Nat) (p : Due), i < l.length → spl (dues l) (i * 2) [.int .i64 p.1, .int .i64 p.2] = dues (l.set i p)
  | [], i, _, h => absurd h (Nat.not_lt_zero _)
  | q :: l, 0, p, _ => rfl
  | q :: l, i + 1, p, h => by
    have := dues_spl l i p (by simpa using h)
    simp only [spl] at this ⊢
    rw [show (i + 1) * 2 = i * 2 + 1 + 1 by omega]
    simp only [dues, List.set_cons_succ]
    rw [← this]
theorem dues_take (l : List Due) (k : Nat) (h : k ≤ l.length) : rowL (dues l) 0 (k * 2) = some (dues (l.take k)) := by
  rw [rowL_some _ _ _ (by rw [dues_len]; omega), List.drop_zero]
  congr 1
  have : dues l = dues (l.take k) ++ dues (l.drop k) := by rw [← dues_app, List.take_append_drop]
  rw [this, List.take_append_of_le_length (by rw [dues_len, List.length_take]; omega), List.take_of_length_le (by rw [dues_len, List.length_take]; omega)]

/-- A heap lies at an object. -/
structure HeapAt (σ0 : H) (hid : Nat) (L : List Due) (τ : H) : Prop where
  ext : Ext σ0 τ
  lo : σ0.size ≤ hid
  at_ : ∃ v, τ.get hid = .cells 0 [v] ∧ ((v = .slice none 0 0 ∧ L = []) ∨ ∃ id R, v = .slice (some ⟨id, 0, none⟩) L.length (L.length + R.length) ∧ σ0.size ≤ id ∧ τ.get id = .cells 2 (dues (L ++ R)))
theorem HeapAt.of_ext {σ0 τ τ' : H} {hid : Nat} {L : List Due} (h : HeapAt σ0 hid L τ) (e : Ext τ τ') : HeapAt σ0 hid L τ' := by
  obtain ⟨h1, h2, v, h3, h4⟩ := h
  refine ⟨h1.trans e, h2, v, e.cells h3, ?_⟩
  rcases h4 with h4 | ⟨id, R, h5, h6, h7⟩
  · exact .inl h4
  · exact .inr ⟨id, R, h5, h6, e.cells h7⟩
/-- All else is as it was. -/
def Keep2 (hid : Nat) (σ τ : H) : Prop := σ.size ≤ τ.size ∧ ∀ i, σ.get i ≠ .dead → i ≠ hid → (∀ cs, σ.get i ≠ .cells 2 cs) → τ.get i = σ.get i
theorem Keep2.of_ext {hid : Nat} {σ τ : H} (e : Ext σ τ) : Keep2 hid σ τ := ⟨e.size, fun i h _ _ => e.get i (H.lt_of_live h)⟩
theorem Keep2.trans {hid : Nat} {a b c : H} (h : Keep2 hid a b) (k : Keep2 hid b c) : Keep2 hid a c :=
  ⟨Nat.le_trans h.1 k.1, fun i h1 h2 h3 => by
    have := h.2 i h1 h2 h3
    rw [k.2 i (by rw [this]; exact h1) h2 (by rw [this]; exact h3), this]⟩

section
variable {σ : H} {a b c : MObj}
theorem p21 : ((σ.push a).push b).get σ.size = a := by rw [H.get_push_ne (by simp), H.get_push_self]
theorem p22 : ((σ.push a).push b).get (σ.size + 1) = b := H.get_push_self (σ.push a) b
theorem p31 : (((σ.push a).push b).push c).get σ.size = a := by rw [H.get_push_ne (by simp only [H.size_push]; omega), p21]
theorem p32 : (((σ.push a).push b).push c).get (σ.size + 1) = b := by rw [H.get_push_ne (by simp), p22]
theorem p33 : (((σ.push a).push b).push c).get (σ.size + 1 + 1) = c := H.get_push_self ((σ.push a).push b) c
end
theorem Less_c (a b : Due) (σ : H) : MCalls Tryd.prog 105 [dueV a, dueV b] σ (fun v τ => v = .bool (lt a b) ∧ Ext σ τ) := by
  refine mcalls_of fn105 (by simp) ?_
  unfold c105 r105 dueV
  have e2 : Ext σ ((σ.push (.cells 0 [.int .i64 a.1, .int .i64 a.2])).push (.cells 0 [.int .i64 b.1, .int .i64 b.2])) := (Ext.push _ _).trans (Ext.push _ _)
  by_cases h : a.1 = b.1
  · have h1 : (a.1 != b.1) = false := by simp [h]
    (have fx := And.intro h1 (And.intro @p21 @p22); refine stepR ?_; clear fx)
    refine fin1 ⟨?_, e2⟩
    simp only [go_sem, reduceIte, Nat.reduceEqDiff, reduceCtorEq, Nat.reduceAdd, Nat.reduceLeDiff, Int.reduceNeg, Int.reduceToNat, Int.reduceBEq, Int.reduceBNe, Int.reduceLT, Int.reduceLE, Int.reduceAdd, Int.reduceSub, lt]
    rw [if_neg (by simp [h])]
  · have h1 : (a.1 != b.1) = true := by simp [h]
    (have fx := And.intro h1 (And.intro @p21 @p22); refine stepR ?_; clear fx)
    refine fin1 ⟨?_, e2⟩
    simp only [go_sem, reduceIte, Nat.reduceEqDiff, reduceCtorEq, Nat.reduceAdd, Nat.reduceLeDiff, Int.reduceNeg, Int.reduceToNat, Int.reduceBEq, Int.reduceBNe, Int.reduceLT, Int.reduceLE, Int.reduceAdd, Int.reduceSub, lt]
    rw [if_pos h]

theorem getD_left {L R : List Due} {i : Nat} (h : i < L.length) : (L ++ R).getD i (0, 0) = L.getD i (0, 0) := by
  rw [List.getD_eq_getElem?_getD, List.getElem?_append_left h, List.getD_eq_getElem?_getD]
theorem hless_c {σ0 σ : H} {hid : Nat} {L : List Due} (h : HeapAt σ0 hid L σ) (i k : Nat) (hi : i < L.length) (hk : k < L.length) (hL : L.length ≤ 1000000) :
    MCalls Tryd.prog 81 [.pointer (some ⟨hid, 0, none⟩), .int .i64 i, .int .i64 k] σ (fun v τ => v = .bool (lt (L.getD i (0, 0)) (L.getD k (0, 0))) ∧ Ext σ τ) := by
  obtain ⟨h1, h2, v, h3, h4⟩ := h
  rcases h4 with ⟨_, h4⟩ | ⟨id, R, rfl, h6, h7⟩
  · subst h4; exact absurd hi (Nat.not_lt_zero _)
  refine mcalls_of fn81 (by simp) ?_
  unfold c81 r81
  have r1 := dues_row (L ++ R) i (by simp; omega)
  have r2 := dues_row (L ++ R) k (by simp; omega)
  rw [getD_left hi] at r1
  rw [getD_left hk] at r2
  (have fx := h3; refine stepR ?_; clear fx)
  refine mld_loadN Sd0 Sd0 (row_of h7 r1) ?_
  (have fx := h3; refine stepR ?_; clear fx)
  refine mld_loadN Sd0 Sd0 (row_of h7 r2) ?_
  generalize L.getD i (0, 0) = a
  generalize L.getD k (0, 0) = b
  refine mld_callW Sd0 Sd0 (Less_c a b σ) ?_
  rintro _ τ ⟨rfl, e⟩
  refine stepR0 ?_
  exact fin1 ⟨Sd0, e⟩

def swp (L : List Due) (i k : Nat) : List Due := (L.set i (L.getD k (0, 0))).set k (L.getD i (0, 0))
theorem swp_len (L : List Due) (i k : Nat) : (swp L i k).length = L.length := by simp [swp]
theorem hswap_c {σ0 σ : H} {hid : Nat} {L : List Due} (h : HeapAt σ0 hid L σ) (i k : Nat) (hi : i < L.length) (hk : k < L.length) (hL : L.length ≤ 1000000) :
    MCalls Tryd.prog 82 [.pointer (some ⟨hid, 0, none⟩), .int .i64 i, .int .i64 k] σ (fun v τ => HeapAt σ0 hid (swp L i k) τ ∧ Keep2 hid σ τ) := by
  obtain ⟨h1, h2, v, h3, h4⟩ := h
  rcases h4 with ⟨_, h4⟩ | ⟨id, R, rfl, h6, h7⟩
  · subst h4; exact absurd hi (Nat.not_lt_zero _)
  refine mcalls_of fn82 (by simp) ?_
  unfold c82 r82
  have r1 := dues_row (L ++ R) i (by simp; omega)
  have r2 := dues_row (L ++ R) k (by simp; omega)
  rw [getD_left hi] at r1
  rw [getD_left hk] at r2
  (have fx := h3; refine stepR ?_; clear fx)
  refine mld_loadN Sd0 Sd0 (row_of h7 r2) ?_
  (have fx := h3; refine stepR ?_; clear fx)
  refine mld_loadN Sd0 Sd0 (row_of h7 r1) ?_
  (have fx := h3; refine stepR ?_; clear fx)
  have hlt := H.lt_of_cells h7
  have hne : hid ≠ id := fun e => by rw [e, h7] at h3; cases h3
  have s1 := dues_spl (L ++ R) i (L.getD k (0, 0)) (by simp; omega)
  have s2 := dues_spl ((L ++ R).set i (L.getD k (0, 0))) k (L.getD i (0, 0)) (by simp; omega)
  refine mld_op Sd0 (o_store (off := i * 2) (vs := [.int .i64 (L.getD k (0, 0)).1, .int .i64 (L.getD k (0, 0)).2]) Sd0 Sd0 h7 rfl (by rw [dues_len, List.length_append]; omega) rfl) ?_
  rw [s1]
  (have fx := h3; refine stepR ?_; clear fx)
  refine mld_op Sd0 (o_store (off := k * 2) (vs := [.int .i64 (L.getD i (0, 0)).1, .int .i64 (L.getD i (0, 0)).2]) Sd0 Sd0 (H.get_set_self hlt) rfl (by rw [dues_len, List.length_set, List.length_append]; omega) rfl) ?_
  rw [s2]
  refine stepR0 ?_
  have hsw : ((L ++ R).set i (L.getD k (0, 0))).set k (L.getD i (0, 0)) = swp L i k ++ R := by
    rw [swp, List.set_append_left _ _ hi, List.set_append_left _ _ (by simpa using hk)]
  rw [hsw]
  refine fin0n ⟨⟨(h1.set' h6 _).set' h6 _, h2, _, ?_, .inr ⟨id, R, rfl, h6, ?_⟩⟩, by simp, fun j hj h1 h2 => ?_⟩
  · rw [H.get_set_ne hne, H.get_set_ne hne, h3, swp_len]
  · rw [H.get_set_self (by simpa using hlt)]
  · have : j ≠ id := fun e => by subst e; exact h2 _ h7
    rw [H.get_set_ne this, H.get_set_ne this]
end Go.Proofs.YtgfmphjccnemmaaDoor
