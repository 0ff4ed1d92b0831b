/- TextUnlike. -/
import Derived.Test.YtepjinaomedecaaDoorTextF
namespace Go.Proofs.YtepjinaomedecaaDoor
open Go.Mini
open Go.Proofs.YtepjinaomedecaaDoor.Code
set_option linter.unusedVariables false
set_option linter.unusedSimpArgs false
set_option linter.ambiguousOpen false
attribute [local irreducible] mx ml mld mstep MCalls Ex.thn Ex.inb
variable {E : World → Prop}

set_option maxHeartbeats 4000000 in
theorem textUnlike_c (hE : ∀ w, E w → TextE w) (nm : ByteArray) (a b c : Int) (ia : I64 a) (ib : I64 b) (ic : I64 c) (nm' : ByteArray) (a' b' c' : Int) (ia' : I64 a') (ib' : I64 b') (ic' : I64 c') {σ : H} :
    MCalls E Tryd.prog 7 [actV nm a b c, actV nm' a' b' c'] σ (fun v τ => v = .bool true) := by
  refine mcalls_of fn7 (by simp) ?_
  unfold c7 r7 actV
  refine stepR0 ?_
  have gA := (Ext.push (σ.push (.cells 0 [.string nm, .int .i64 a, .int .i64 b, .int .i64 c])) (.cells 0 [.string nm', .int .i64 a', .int .i64 b', .int .i64 c'])).cells (H.get_push_self σ (.cells 0 [.string nm, .int .i64 a, .int .i64 b, .int .i64 c]))
  have gB : ((σ.push (.cells 0 [.string nm, .int .i64 a, .int .i64 b, .int .i64 c])).push (.cells 0 [.string nm', .int .i64 a', .int .i64 b', .int .i64 c'])).get (σ.size + 1) = .cells 0 [.string nm', .int .i64 a', .int .i64 b', .int .i64 c'] := H.get_push_self (σ.push (.cells 0 [.string nm, .int .i64 a, .int .i64 b, .int .i64 c])) _
  generalize (σ.push (.cells 0 [.string nm, .int .i64 a, .int .i64 b, .int .i64 c])).push (.cells 0 [.string nm', .int .i64 a', .int .i64 b', .int .i64 c']) = τ0 at gA gB ⊢
  refine ml_call Sd0 Sd0 (xAwake_c hE _) ?_
  rintro _ τ ⟨rfl, e1⟩
  have gA1 := e1.cells gA
  have gB1 := e1.cells gB
  by_cases hs : 50 < nm.size
  · have hs' : (50 : Int) < (nm.size : Int) := by omega
    (have fx := And.intro gA1 hs'; refine stepR ?_; clear fx)
    refine ml_call (have fx := hs'; Sd) (have fx := hs'; Sd) (xAwake_c hE _) ?_
    rintro _ τ2 ⟨rfl, e2⟩
    (have fx := hs'; refine stepR ?_; clear fx)
    exact fin1 (have fx := hs'; Sd)
  have hs' : ¬ (50 : Int) < (nm.size : Int) := by omega
  by_cases hs2 : 50 < nm'.size
  · have hs2' : (50 : Int) < (nm'.size : Int) := by omega
    (have fx := And.intro gA1 (And.intro gB1 (And.intro hs' hs2')); refine stepR ?_; clear fx)
    refine ml_call (have fx := And.intro hs' hs2'; Sd) (have fx := And.intro hs' hs2'; Sd) (xAwake_c hE _) ?_
    rintro _ τ2 ⟨rfl, e2⟩
    (have fx := And.intro hs' hs2'; refine stepR ?_; clear fx)
    exact fin1 (have fx := And.intro hs' hs2'; Sd)
  have hs2' : ¬ (50 : Int) < (nm'.size : Int) := by omega
  (have fx := And.intro gA1 (And.intro gB1 (And.intro hs' hs2')); refine stepR ?_; clear fx)
  refine ml_call (have fx := hs'; Sd) (have fx := hs'; Sd) (aOf_c nm a b c τ) ?_
  rintro _ τ2 ⟨rfl, e2⟩
  refine stepR0 ?_
  refine ml_call Sd0 Sd0 (xLay_c hE nm (by omega) a b c ia ib ic τ2) ?_
  intro v τ3 hlay
  obtain ⟨T, ev, num, rfl, e3, hnum, hT⟩ := lay_num hE hlay
  have gA3 := e3.cells (e2.cells gA1)
  have gB3 := e3.cells (e2.cells gB1)
  (have fx := gB3; refine stepR ?_; clear fx)
  refine ml_call Sd0 Sd0 (aOf_c nm' a' b' c' τ3) ?_
  rintro _ τ4 ⟨rfl, e4⟩
  refine stepR0 ?_
  refine ml_call Sd0 Sd0 (xLay_c hE nm' (by omega) a' b' c' ia' ib' ic' τ4) ?_
  intro v τ5 hlay2
  obtain ⟨T', ev', num', rfl, e5, hnum', hT'⟩ := lay_num hE hlay2
  have gA5 := e5.cells (e4.cells gA3)
  have gB5 := e5.cells (e4.cells gB3)
  refine stepR0 ?_
  refine ml_call Sd0 Sd0 (hnum τ5 (e4.trans e5)) ?_
  rintro _ τ6 ⟨rfl, e6⟩
  rcases hT with ⟨rfl, hT⟩ | ⟨rfl, _⟩
  rotate_left
  · refine stepR0 ?_
    exact fin1 Sd0
  refine stepR0 ?_
  refine ml_call Sd0 Sd0 (hnum' τ6 e6) ?_
  rintro _ τ7 ⟨rfl, e7⟩
  rcases hT' with ⟨rfl, hT'⟩ | ⟨rfl, _⟩
  rotate_left
  · refine stepR0 ?_
    exact fin1 Sd0
  have gA7 := e7.cells (e6.cells gA5)
  have gB7 := e7.cells (e6.cells gB5)
  have hTT : (T.toList == T'.toList) = decide (nm = nm' ∧ a = a' ∧ b = b' ∧ c = c') := by
    rw [toList_data, toList_data]
    by_cases h : nm = nm' ∧ a = a' ∧ b = b' ∧ c = c'
    · rw [decide_eq_true h]
      obtain ⟨rfl, rfl, rfl, rfl⟩ := h
      obtain ⟨w1, hr1, hl1⟩ := hT
      obtain ⟨w2, hr2, hl2⟩ := hT'
      have := hr1.needs
      rw [hr2.needs] at this
      obtain rfl := Option.some.inj this
      rw [beq_iff_eq, hl1, hl2]
    · rw [decide_eq_false h, beq_eq_false_iff_ne]
      intro e
      rw [e] at hT
      exact h (req_uniq hT hT')
  (have fx := And.intro gA7 gB7; refine stepR ?_; clear fx)
  refine ml_op Sd0 (o_eqActD (nm := nm) (a := a) (b := b) (c := c) (nm' := nm') (a' := a') (b' := b') (c' := c') Sd0 Sd0) ?_
  generalize decide (nm = nm' ∧ a = a' ∧ b = b' ∧ c = c') = eb at hTT ⊢
  cases eb
  · (have fx := hTT; refine stepR ?_; clear fx)
    exact fin1 (have fx := hTT; Sd)
  · (have fx := hTT; refine stepR ?_; clear fx)
    exact fin1 (have fx := hTT; Sd)
end Go.Proofs.YtepjinaomedecaaDoor
