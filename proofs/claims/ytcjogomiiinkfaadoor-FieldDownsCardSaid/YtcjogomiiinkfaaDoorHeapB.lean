import Derived.Test.YtcjogomiiinkfaaDoorCode
import Derived.Test.YtcjogomiiinkfaaDoorBase4
namespace Go.Proofs.YtcjogomiiinkfaaDoor
open Go.Mini
open Go.Proofs.YtcjogomiiinkfaaDoor.Code
set_option linter.unusedVariables false
set_option linter.unusedSimpArgs false
set_option linter.ambiguousOpen false
attribute [local irreducible] mx ml mld mstep MCalls Ex.thn Ex.inb
variable {E : World → Prop}

/-! ## A heap's items -/
abbrev Due := Int × Int
def lt (a b : Due) : Bool := if a.1 ≠ b.1 then decide (a.1 < b.1) else decide (a.2 < b.2)
def dueV (a : Due) : Value := .agg #[.int .i64 a.1, .int .i64 a.2]
attribute [go_sem] dueV
def dues : List Due → List Value
  | [] => []
  | p :: l => .int .i64 p.1 :: .int .i64 p.2 :: dues l
theorem dues_len : ∀ l : List Due, (dues l).length = l.length * 2
  | [] => rfl
  | p :: l => by simp only [dues, List.length_cons, dues_len l]; omega
theorem dues_app : ∀ a b : List Due, dues (a ++ b) = dues a ++ dues b
  | [], _ => rfl
  | p :: a, b => by simp only [List.cons_append, dues, dues_app a b]
theorem dues_one : ∀ l : List Due, (dues l).all one = true
  | [] => rfl
  | p :: l => by simp only [dues, List.all_cons, dues_one l, Bool.and_true]; rfl
theorem dues_row : ∀ (l : List Due) (i : Nat), i < l.length → rowL (dues l) (i * 2) 2 = some [.int .i64 (l.getD i (0, 0)).1, .int .i64 (l.getD i (0, 0)).2]
  | [], i, h => absurd h (Nat.not_lt_zero _)
  | p :: l, 0, _ => rfl
  | p :: l, i + 1, h => by
    have := dues_row l i (by simpa using h)
    simp only [rowL] at this ⊢
    rw [show (i + 1) * 2 = i * 2 + 1 + 1 by omega]
    simpa [dues] using this
theorem dues_spl : ∀ (l : List Due) (i : Nat) (p : Due), i < l.length → spl (dues l) (i * 2) [.int .i64 p.1, .int .i64 p.2] = dues (l.set i p)
  | [], i, _, h => absurd h (Nat.not_lt_zero _)
  | q :: l, 0, p, _ => rfl
  | q :: l, i + 1, p, h => by
    have := dues_spl l i p (by simpa using h)
    simp only [spl] at this ⊢
    rw [show (i + 1) * 2 = i * 2 + 1 + 1 by omega]
    simp only [dues, List.set_cons_succ]
    rw [← this]
theorem dues_take (l : List Due) (k : Nat) (h : k ≤ l.length) : rowL (dues l) 0 (k * 2) = some (dues (l.take k)) := by
  rw [rowL_some _ _ _ (by rw [dues_len]; omega), List.drop_zero]
  congr 1
  have : dues l = dues (l.take k) ++ dues (l.drop k) := by rw [← dues_app, List.take_append_drop]
  rw [this, List.take_append_of_le_length (by rw [dues_len, List.length_take]; omega), List.take_of_length_le (by rw [dues_len, List.length_take]; omega)]

/-- A heap lies at an object. -/
structure HeapAt (σ0 : H) (hid : Nat) (L : List Due) (τ : H) : Prop where
  ext : Ext σ0 τ
  lo : σ0.size ≤ hid
  at_ : ∃ v, τ.get hid = .cells 0 [v] ∧ ((v = .slice none 0 0 ∧ L = []) ∨ ∃ id R, v = .slice (some ⟨id, 0, none⟩) L.length (L.length + R.length) ∧ σ0.size ≤ id ∧ τ.get id = .cells 2 (dues (L ++ R)))
theorem HeapAt.of_ext {σ0 τ τ' : H} {hid : Nat} {L : List Due} (h : HeapAt σ0 hid L τ) (e : Ext τ τ') : HeapAt σ0 hid L τ' := by
  obtain ⟨h1, h2, v, h3, h4⟩ := h
  refine ⟨h1.trans e, h2, v, e.cells h3, ?_⟩
  rcases h4 with h4 | ⟨id, R, h5, h6, h7⟩
  · exact .inl h4
  · exact .inr ⟨id, R, h5, h6, e.cells h7⟩
/-- All else is as it was. -/
def Keep2 (hid : Nat) (σ τ : H) : Prop := σ.size ≤ τ.size ∧ ∀ i, σ.get i ≠ .dead → i ≠ hid → (∀ cs, σ.get i ≠ .cells 2 cs) → τ.get i = σ.get i
theorem Keep2.of_ext {hid : Nat} {σ τ : H} (e : Ext σ τ) : Keep2 hid σ τ := ⟨e.size, fun i h _ _ => e.get i (H.lt_of_live h)⟩
theorem Keep2.trans {hid : Nat} {a b c : H} (h : Keep2 hid a b) (k : Keep2 hid b c) : Keep2 hid a c :=
  ⟨Nat.le_trans h.1 k.1, fun i h1 h2 h3 => by
    have := h.2 i h1 h2 h3
    rw [k.2 i (by rw [this]; exact h1) h2 (by rw [this]; exact h3), this]⟩

/-- Where the heap's items lie. -/
def IsBuf (σ : H) (hid i : Nat) : Prop := ∃ n m, σ.get hid = .cells 0 [.slice (some ⟨i, 0, none⟩) n m]
structure Keep3 (hid : Nat) (σ τ : H) : Prop where
  size : σ.size ≤ τ.size
  get : ∀ i, σ.get i ≠ .dead → i ≠ hid → ¬ IsBuf σ hid i → τ.get i = σ.get i
  buf : ∀ i, IsBuf τ hid i → IsBuf σ hid i
theorem HeapAt.lt {σ0 τ : H} {hid : Nat} {L : List Due} (h : HeapAt σ0 hid L τ) : hid < τ.size := by
  obtain ⟨_, _, v, h3, _⟩ := h; exact H.lt_of_cells h3
theorem Keep3.of_ext {hid : Nat} {σ τ : H} (e : Ext σ τ) (h : hid < σ.size) : Keep3 hid σ τ := ⟨e.size, fun i h _ _ => e.get i (H.lt_of_live h), fun i ⟨n, m, x⟩ => ⟨n, m, by rw [← e.get hid h]; exact x⟩⟩
theorem Keep3.trans {hid : Nat} {a b c : H} (h : Keep3 hid a b) (k : Keep3 hid b c) : Keep3 hid a c :=
  ⟨Nat.le_trans h.size k.size, fun i h1 h2 h3 => by
    have := h.get i h1 h2 h3
    rw [k.get i (by rw [this]; exact h1) h2 (fun x => h3 (h.buf i x)), this], fun i x => h.buf i (k.buf i x)⟩
theorem HeapAt.notbuf {σ0 τ : H} {hid i : Nat} {L : List Due} (h : HeapAt σ0 hid L τ) (hi : ∀ cs, τ.get i ≠ .cells 2 cs) : ¬ IsBuf τ hid i := by
  rintro ⟨n, m, x⟩
  obtain ⟨_, _, v, h3, h4⟩ := h
  rw [h3] at x
  rcases h4 with ⟨rfl, _⟩ | ⟨id, R, rfl, _, h7⟩
  · simp at x
  · simp at x
    obtain ⟨rfl, _⟩ := x
    exact hi _ h7
theorem Keep3.two {σ0 σ τ : H} {hid : Nat} {L : List Due} (k : Keep3 hid σ τ) (h : HeapAt σ0 hid L σ) : Keep2 hid σ τ := ⟨k.size, fun i h1 h2 h3 => k.get i h1 h2 (h.notbuf h3)⟩

section
variable {σ : H} {a b c : MObj}
theorem p21 : ((σ.push a).push b).get σ.size = a := by rw [H.get_push_ne (by simp), H.get_push_self]
theorem p22 : ((σ.push a).push b).get (σ.size + 1) = b := H.get_push_self (σ.push a) b
theorem p31 : (((σ.push a).push b).push c).get σ.size = a := by rw [H.get_push_ne (by simp only [H.size_push]; omega), p21]
theorem p32 : (((σ.push a).push b).push c).get (σ.size + 1) = b := by rw [H.get_push_ne (by simp), p22]
theorem p33 : (((σ.push a).push b).push c).get (σ.size + 1 + 1) = c := H.get_push_self ((σ.push a).push b) c
end
theorem Less_c (a b : Due) (σ : H) : MCalls E Tryd.prog 72 [dueV a, dueV b] σ (fun v τ => v = .bool (lt a b) ∧ Ext σ τ) := by
  refine mcalls_of fn72 (by simp) ?_
  unfold c72 r72 dueV
  have e2 : Ext σ ((σ.push (.cells 0 [.int .i64 a.1, .int .i64 a.2])).push (.cells 0 [.int .i64 b.1, .int .i64 b.2])) := (Ext.push _ _).trans (Ext.push _ _)
  by_cases h : a.1 = b.1
  · have h1 : (a.1 != b.1) = false := by simp [h]
    (have fx := And.intro h1 (And.intro @p21 @p22); refine stepR ?_; clear fx)
    refine fin1 ⟨?_, e2⟩
    simp only [go_sem, reduceIte, Nat.reduceEqDiff, reduceCtorEq, Nat.reduceAdd, Nat.reduceLeDiff, Int.reduceNeg, Int.reduceToNat, Int.reduceBEq, Int.reduceBNe, Int.reduceLT, Int.reduceLE, Int.reduceAdd, Int.reduceSub, lt]
    rw [if_neg (by simp [h])]
  · have h1 : (a.1 != b.1) = true := by simp [h]
    (have fx := And.intro h1 (And.intro @p21 @p22); refine stepR ?_; clear fx)
    refine fin1 ⟨?_, e2⟩
    simp only [go_sem, reduceIte, Nat.reduceEqDiff, reduceCtorEq, Nat.reduceAdd, Nat.reduceLeDiff, Int.reduceNeg, Int.reduceToNat, Int.reduceBEq, Int.reduceBNe, Int.reduceLT, Int.reduceLE, Int.reduceAdd, Int.reduceSub, lt]
    rw [if_pos h]

theorem getD_left {L R : List Due} {i : Nat} (h : i < L.length) : (L ++ R).getD i (0, 0) = L.getD i (0, 0) := by
  rw [List.getD_eq_getElem?_getD, List.getElem?_append_left h, List.getD_eq_getElem?_getD]
theorem hless_c {σ0 σ : H} {hid : Nat} {L : List Due} (h : HeapAt σ0 hid L σ) (i k : Nat) (hi : i < L.length) (hk : k < L.length) (hL : L.length ≤ 1000000) :
    MCalls E Tryd.prog 53 [.pointer (some ⟨hid, 0, none⟩), .int .i64 i, .int .i64 k] σ (fun v τ => v = .bool (lt (L.getD i (0, 0)) (L.getD k (0, 0))) ∧ Ext σ τ) := by
  obtain ⟨h1, h2, v, h3, h4⟩ := h
  rcases h4 with ⟨_, h4⟩ | ⟨id, R, rfl, h6, h7⟩
  · subst h4; exact absurd hi (Nat.not_lt_zero _)
  refine mcalls_of fn53 (by simp) ?_
  unfold c53 r53
  have r1 := dues_row (L ++ R) i (by simp; omega)
  have r2 := dues_row (L ++ R) k (by simp; omega)
  rw [getD_left hi] at r1
  rw [getD_left hk] at r2
  (have fx := h3; refine stepR ?_; clear fx)
  refine mld_loadN Sd0 Sd0 (row_of h7 r1) ?_
  (have fx := h3; refine stepR ?_; clear fx)
  refine mld_loadN Sd0 Sd0 (row_of h7 r2) ?_
  generalize L.getD i (0, 0) = a
  generalize L.getD k (0, 0) = b
  refine mld_callW Sd0 Sd0 (Less_c a b σ) ?_
  rintro _ τ ⟨rfl, e⟩
  refine stepR0 ?_
  exact fin1 ⟨Sd0, e⟩

def swp (L : List Due) (i k : Nat) : List Due := (L.set i (L.getD k (0, 0))).set k (L.getD i (0, 0))
theorem swp_len (L : List Due) (i k : Nat) : (swp L i k).length = L.length := by simp [swp]
theorem hswap_c3 {σ0 σ : H} {hid : Nat} {L : List Due} (h : HeapAt σ0 hid L σ) (i k : Nat) (hi : i < L.length) (hk : k < L.length) (hL : L.length ≤ 1000000) :
    MCalls E Tryd.prog 54 [.pointer (some ⟨hid, 0, none⟩), .int .i64 i, .int .i64 k] σ (fun v τ => HeapAt σ0 hid (swp L i k) τ ∧ Keep3 hid σ τ) := by
  obtain ⟨h1, h2, v, h3, h4⟩ := h
  rcases h4 with ⟨_, h4⟩ | ⟨id, R, rfl, h6, h7⟩
  · subst h4; exact absurd hi (Nat.not_lt_zero _)
  refine mcalls_of fn54 (by simp) ?_
  unfold c54 r54
  have r1 := dues_row (L ++ R) i (by simp; omega)
  have r2 := dues_row (L ++ R) k (by simp; omega)
  rw [getD_left hi] at r1
  rw [getD_left hk] at r2
  (have fx := h3; refine stepR ?_; clear fx)
  refine mld_loadN Sd0 Sd0 (row_of h7 r2) ?_
  (have fx := h3; refine stepR ?_; clear fx)
  refine mld_loadN Sd0 Sd0 (row_of h7 r1) ?_
  (have fx := h3; refine stepR ?_; clear fx)
  have hlt := H.lt_of_cells h7
  have hne : hid ≠ id := fun e => by rw [e, h7] at h3; cases h3
  have s1 := dues_spl (L ++ R) i (L.getD k (0, 0)) (by simp; omega)
  have s2 := dues_spl ((L ++ R).set i (L.getD k (0, 0))) k (L.getD i (0, 0)) (by simp; omega)
  refine mld_op Sd0 (o_store (off := i * 2) (vs := [.int .i64 (L.getD k (0, 0)).1, .int .i64 (L.getD k (0, 0)).2]) Sd0 Sd0 h7 rfl (by rw [dues_len, List.length_append]; omega) rfl) ?_
  rw [s1]
  (have fx := h3; refine stepR ?_; clear fx)
  refine mld_op Sd0 (o_store (off := k * 2) (vs := [.int .i64 (L.getD i (0, 0)).1, .int .i64 (L.getD i (0, 0)).2]) Sd0 Sd0 (H.get_set_self hlt) rfl (by rw [dues_len, List.length_set, List.length_append]; omega) rfl) ?_
  rw [s2]
  refine stepR0 ?_
  have hsw : ((L ++ R).set i (L.getD k (0, 0))).set k (L.getD i (0, 0)) = swp L i k ++ R := by
    rw [swp, List.set_append_left _ _ hi, List.set_append_left _ _ (by simpa using hk)]
  rw [hsw]
  refine fin0n ⟨⟨(h1.set' h6 _).set' h6 _, h2, _, ?_, .inr ⟨id, R, rfl, h6, ?_⟩⟩, by simp, fun j hj h1 h2 => ?_, fun j ⟨n, m, x⟩ => ⟨n, m, ?_⟩⟩
  · rw [H.get_set_ne hne, H.get_set_ne hne, h3, swp_len]
  · rw [H.get_set_self (by simpa using hlt)]
  · have : j ≠ id := fun e => by subst e; exact h2 ⟨_, _, h3⟩
    rw [H.get_set_ne this, H.get_set_ne this]
  · rw [H.get_set_ne hne, H.get_set_ne hne] at x; exact x
theorem hswap_c {σ0 σ : H} {hid : Nat} {L : List Due} (h : HeapAt σ0 hid L σ) (i k : Nat) (hi : i < L.length) (hk : k < L.length) (hL : L.length ≤ 1000000) :
    MCalls E Tryd.prog 54 [.pointer (some ⟨hid, 0, none⟩), .int .i64 i, .int .i64 k] σ (fun v τ => HeapAt σ0 hid (swp L i k) τ ∧ Keep2 hid σ τ) :=
  (hswap_c3 h i k hi hk hL).mono fun _ _ ⟨a, b⟩ => ⟨a, b.two h⟩
end Go.Proofs.YtcjogomiiinkfaaDoor
namespace Go.Proofs.YtcjogomiiinkfaaDoor
open Go.Mini
open Go.Proofs.YtcjogomiiinkfaaDoor.Code
set_option linter.unusedVariables false
set_option linter.unusedSimpArgs false
set_option linter.ambiguousOpen false
attribute [local irreducible] mx ml mld mstep MCalls Ex.thn Ex.inb
variable {E : World → Prop}

abbrev dv (L : List Due) (i : Nat) : Due := L.getD i (0, 0)
def up (L : List Due) (i : Nat) : List Due :=
  if h : 0 < i ∧ lt (dv L i) (dv L ((i - 1) / 2)) = true then up (swp L i ((i - 1) / 2)) ((i - 1) / 2) else L
termination_by i
decreasing_by omega
def kid (L : List Due) (i : Nat) : Nat := if 2 * i + 2 < L.length ∧ lt (dv L (2 * i + 2)) (dv L (2 * i + 1)) = true then 2 * i + 2 else 2 * i + 1
def down (L : List Due) (i : Nat) : List Due :=
  if h : 2 * i + 1 < L.length ∧ lt (dv L (kid L i)) (dv L i) = true then down (swp L i (kid L i)) (kid L i) else L
termination_by L.length - i
decreasing_by
  rw [swp_len]
  have : i < kid L i := by unfold kid; split <;> omega
  omega

theorem HeapAt.len {σ0 τ : H} {hid : Nat} {L : List Due} (h : HeapAt σ0 hid L τ) : ∃ v, τ.get hid = .cells 0 [v] ∧ ∀ ts x, mev ts x = v → mop ts τ (.len false x) = some (.int .i64 L.length, τ) := by
  obtain ⟨h1, h2, v, h3, h4⟩ := h
  refine ⟨v, h3, fun ts x hx => ?_⟩
  rcases h4 with ⟨rfl, rfl⟩ | ⟨id, R, rfl, h6, h7⟩ <;> simp [mop, hx]

set_option maxHeartbeats 1000000 in
theorem hsink_c3 {σ0 σ : H} {hid : Nat} {L : List Due} (h : HeapAt σ0 hid L σ) (hL : L.length ≤ 1000000) :
    MCalls E Tryd.prog 56 [.pointer (some ⟨hid, 0, none⟩)] σ (fun v τ => HeapAt σ0 hid (down L 0) τ ∧ Keep3 hid σ τ) := by
  refine mcalls_of fn56 (by simp) ?_
  unfold c56 r56
  refine stepR0 ?_
  refine mx_loop (fun n ts τ => ∃ L' i, n = L.length - i ∧ ts 0 = .pointer (some ⟨hid, 0, none⟩) ∧ ts 2 = .int .i64 ((i : Nat) : Int) ∧ HeapAt σ0 hid L' τ ∧ Keep3 hid σ τ ∧ down L' i = down L 0 ∧ L'.length = L.length ∧ i ≤ L.length) L.length ?_ ?_
  · exact ⟨L, 0, by omega, Sd0, Sd0, h, .of_ext (.refl _) h.lt, rfl, rfl, by omega⟩
  rintro n ts τ ⟨L', i, hn, t0, t2, hh, hk, hd, hl, hi⟩
  obtain ⟨v, hv, hlen⟩ := hh.len
  have c2 : 2 * (i : Int) + 1 = ((2 * i + 1 : Nat) : Int) := by omega
  have c1 : ((2 * i + 1 : Nat) : Int) + 1 = ((2 * i + 2 : Nat) : Int) := by omega
  (have fx := And.intro t0 (And.intro t2 (And.intro hv c2)); refine stepR ?_; clear fx)
  refine ml_op Sd0 (hlen _ _ Sd0) ?_
  rcases Nat.lt_or_ge (2 * i + 1) L.length with hlt | hge
  · have ha1 : ¬ ((L'.length : Int) ≤ ((2 * i + 1 : Nat) : Int)) := by omega
    (have fx := And.intro t0 (And.intro t2 (And.intro hv (And.intro ha1 (And.intro c2 c1)))); refine stepR ?_; clear fx)
    refine ml_cut (fun ts τ => HeapAt σ0 hid L' τ ∧ Keep3 hid σ τ ∧ ts 0 = .pointer (some ⟨hid, 0, none⟩) ∧ ts 2 = .int .i64 ((i : Nat) : Int) ∧ ts 3 = .int .i64 ((kid L' i : Nat) : Int)) ?_ ?_
    · refine ml_op Sd0 (hlen _ _ Sd0) ?_
      rcases Nat.lt_or_ge (2 * i + 2) L.length with hlt2 | hge2
      · have ha2 : ((2 * i + 2 : Nat) : Int) < (L'.length : Int) := by omega
        (have fx := And.intro t0 (And.intro t2 (And.intro hv (And.intro ha2 (And.intro c2 c1)))); refine stepR ?_; clear fx)
        refine ml_call Sd0 (have fx := t0; Sd) (hless_c hh (2 * i + 2) (2 * i + 1) (by omega) (by omega) (by omega)) ?_
        rintro _ τ2 ⟨rfl, e⟩
        cases hlt3 : lt (L'.getD (2 * i + 2) (0, 0)) (L'.getD (2 * i + 1) (0, 0))
        · have hkid : kid L' i = 2 * i + 1 := by unfold kid; rw [if_neg]; rintro ⟨_, h⟩; rw [show dv L' (2 * i + 2) = L'.getD (2 * i + 2) (0, 0) from rfl, show dv L' (2 * i + 1) = L'.getD (2 * i + 1) (0, 0) from rfl, hlt3] at h; cases h
          (have fx := And.intro t0 (And.intro t2 (And.intro c2 c1)); refine stepR ?_; clear fx)
          exact ⟨hh.of_ext e, hk.trans (.of_ext e hh.lt), (have fx := t0; Sd), (have fx := t2; Sd), (have fx := hkid; Sd)⟩
        · have hkid : kid L' i = 2 * i + 2 := by unfold kid; rw [if_pos ⟨by omega, hlt3⟩]
          (have fx := And.intro t0 (And.intro t2 (And.intro c2 c1)); refine stepR ?_; clear fx)
          exact ⟨hh.of_ext e, hk.trans (.of_ext e hh.lt), (have fx := t0; Sd), (have fx := t2; Sd), (have fx := hkid; Sd)⟩
      · have ha2 : ¬ ((2 * i + 2 : Nat) : Int) < (L'.length : Int) := by omega
        have hkid : kid L' i = 2 * i + 1 := by unfold kid; rw [if_neg]; rintro ⟨h, _⟩; omega
        (have fx := And.intro t0 (And.intro t2 (And.intro hv (And.intro ha2 (And.intro c2 c1)))); refine stepR ?_; clear fx)
        exact ⟨hh, hk, (have fx := t0; Sd), (have fx := t2; Sd), (have fx := hkid; Sd)⟩
    · clear t0 t2 hh hk hv hlen
      rintro ts τ ⟨hh, hk, t0, t2, t3⟩
      have hkl : kid L' i < L'.length ∧ i < kid L' i := by unfold kid; split <;> omega
      (have fx := And.intro t0 (And.intro t2 t3); refine stepR ?_; clear fx)
      refine ml_call Sd0 (have fx := And.intro t0 (And.intro t3 t2); Sd) (hless_c hh (kid L' i) i hkl.1 (by omega) (by omega)) ?_
      rintro _ τ2 ⟨rfl, e⟩
      cases hlt3 : lt (L'.getD (kid L' i) (0, 0)) (L'.getD i (0, 0))
      · (have fx := And.intro t0 (And.intro t2 t3); refine stepR ?_; clear fx)
        refine fin0 ⟨?_, hk.trans (.of_ext e hh.lt)⟩
        rw [← hd, down, dif_neg]
        · exact hh.of_ext e
        · rintro ⟨_, h⟩; rw [show dv L' (kid L' i) = L'.getD (kid L' i) (0, 0) from rfl, show dv L' i = L'.getD i (0, 0) from rfl, hlt3] at h; cases h
      · (have fx := And.intro t0 (And.intro t2 t3); refine stepR ?_; clear fx)
        refine ml_call Sd0 (have fx := And.intro t0 (And.intro t3 t2); Sd) (hswap_c3 (hh.of_ext e) i (kid L' i) (by omega) hkl.1 (by omega)) ?_
        rintro _ τ3 ⟨hh3, hk3⟩
        (have fx := t3; refine stepR ?_; clear fx)
        refine ⟨_, ?_, swp L' i (kid L' i), kid L' i, rfl, (have fx := t0; Sd), Sd0, hh3, (hk.trans (.of_ext e hh.lt)).trans hk3, ?_, by rw [swp_len]; exact hl, by omega⟩
        · omega
        · rw [← hd, down.eq_1 L' i, dif_pos ⟨by omega, hlt3⟩]
  · have ha1 : (L'.length : Int) ≤ ((2 * i + 1 : Nat) : Int) := by omega
    (have fx := And.intro t0 (And.intro t2 (And.intro hv (And.intro ha1 c2))); refine stepR ?_; clear fx)
    refine fin0 ⟨?_, hk⟩
    rw [← hd, down, dif_neg (by omega)]; exact hh
theorem hsink_c {σ0 σ : H} {hid : Nat} {L : List Due} (h : HeapAt σ0 hid L σ) (hL : L.length ≤ 1000000) :
    MCalls E Tryd.prog 56 [.pointer (some ⟨hid, 0, none⟩)] σ (fun v τ => HeapAt σ0 hid (down L 0) τ ∧ Keep2 hid σ τ) :=
  (hsink_c3 h hL).mono fun _ _ ⟨a, b⟩ => ⟨a, b.two h⟩
end Go.Proofs.YtcjogomiiinkfaaDoor
