/- The field's example; lists alike; FieldPlays. -/
import Derived.Test.YtcjogomiiinkfaaDoorRefD
import Derived.Test.YtcjogomiiinkfaaDoorNearP
import Derived.Test.YtcjogomiiinkfaaDoorErrC
namespace Go.Proofs.YtcjogomiiinkfaaDoor
open Go.Mini
open Go.Proofs.YtcjogomiiinkfaaDoor.Code
set_option linter.unusedVariables false
set_option linter.unusedSimpArgs false
set_option linter.ambiguousOpen false
attribute [local irreducible] mx ml mld mstep MCalls Ex.thn Ex.inb
variable {E : World → Prop}

def exB : ByteArray := ⟨#[46, 67]⟩
theorem ex_cst {out : List Int} (h : Cst 2 exB [1] 2 out) : out = [2, 0] := by
  refine h.uniq ⟨rfl, fun i hi => ?_⟩
  have hi2 : i < 2 := hi
  have o1 : opn exB 1 = true := by decide +kernel
  have n1 : (0 : Int) ∈ nearL 2 exB 1 := by decide +kernel
  have w0 : Wk 2 exB [1] 0 1 := .src (by simp) o1
  have w1 : Wk 2 exB [1] 1 0 := .step w0 n1
  have hc : i = 0 ∨ i = 1 := by omega
  rcases hc with rfl | rfl
  · refine .inr ⟨1, w1, fun j hj => ?_, rfl⟩
    cases j with
    | zero => cases hj with | src h _ => simp at h
    | succ j => omega
  · exact .inr ⟨0, w0, fun j hj => by omega, rfl⟩
theorem cost_ok {W Hh : Int} {S : ByteArray} {srcs : List Int} {step : Int} {σ τ : H} {v : Value} (h : costR W Hh S srcs step σ v τ) (hok : costOK W Hh S srcs step = true) :
    ∃ vo out, v = .tuple #[vo, .nilIface] ∧ Cst W S srcs step out ∧ Out σ τ 1 vo (ints out) := by
  unfold costR at h; rw [if_pos hok] at h; exact h
theorem cost_bad {W Hh : Int} {S : ByteArray} {srcs : List Int} {step : Int} {σ τ : H} {v : Value} (h : costR W Hh S srcs step σ v τ) (hok : costOK W Hh S srcs step = false) :
    ∃ e, v = .tuple #[.slice none 0 0, e] ∧ TagE τ e ⟨#[102, 105, 101, 108, 100]⟩ 1 ∧ Ext σ τ := by
  unfold costR at h; rw [if_neg (by rw [hok]; simp)] at h; exact h
theorem one_rd {σ : H} {x : Int} {id : Nat} (h : σ.get id = .cells 1 [.int .i64 x]) : Rd σ (.slice (some ⟨id, 0, none⟩) 1 1) (ints [x]) := (Own.full (sz := 1) (n := 1) (cs := ints [x]) h rfl).rd
theorem tNumN_c (σ : H) : MCalls E Tryd.prog 19 [.nilIface] σ (fun v τ => v = .int .i64 0 ∧ τ = σ) := by
  refine mcalls_of fn19 (by simp) ?_
  unfold c19 r19
  refine stepR0 ?_
  exact fin1 ⟨Sd0, rfl⟩
theorem fAwake_c (σ : H) : MCalls E Tryd.prog 15 [] σ (fun v τ => v = .bool true ∧ Ext σ τ) := by
  refine mcalls_of fn15 (by simp) ?_
  unfold c15 r15
  refine stepR0 ?_
  have hg := H.get_push_self σ (.cells 1 [.int .i64 1])
  have e1 := Ext.push σ (.cells 1 [.int .i64 1])
  refine ml_call Sd0 Sd0 (costs_c 2 1 exB [1] 2 _ _ (one_rd hg)) ?_
  rintro v τ hc
  obtain ⟨vo, out, rfl, hcst, e2, oid, own, hid⟩ := cost_ok hc (by simp [costOK, gr21, exB])
  obtain rfl := ex_cst hcst
  refine stepR0 ?_
  refine ml_call Sd0 Sd0 (tNumN_c τ) ?_
  rintro _ τ2 ⟨rfl, rfl⟩
  refine stepR0 ?_
  refine ml_len Sd0 own.rd Sd0 ?_
  rw [ints_len]
  refine stepR0 ?_
  refine ml_getSg (q := 0) (e := .int .i64 2) Sd0 own.rd Sd0 Sd0 (by omega) rfl (fun p => Sd0) fun p => ?_
  refine stepR0 ?_
  refine ml_getSg (q := 1) (e := .int .i64 0) Sd0 own.rd Sd0 Sd0 (by omega) rfl (fun p => Sd0) fun p => ?_
  refine stepR0 ?_
  exact fin1 ⟨Sd0, e1.trans e2⟩

set_option maxHeartbeats 1000000 in
theorem lInts_c {σ : H} {av bv : Value} {a b : List Int} (ra : Rd σ av (ints a)) (rb : Rd σ bv (ints b)) (ha : a.length ≤ 1000000) : MCalls E Tryd.prog 20 [av, bv] σ (fun v τ => v = .int .i64 (if a = b then 1 else 0) ∧ τ = σ) := by
  refine mcalls_of fn20 (by simp) ?_
  unfold c20 r20
  refine stepR0 ?_
  refine ml_len Sd0 ra Sd0 ?_
  refine stepR0 ?_
  refine ml_len Sd0 rb Sd0 ?_
  rw [ints_len, ints_len]
  by_cases hl : a.length = b.length
  · have hl' : ((a.length : Int) != (b.length : Int)) = false := by rw [hl]; simp
    (have fx := hl'; refine stepR ?_; clear fx)
    refine mx_loop (fun n ts τ => ∃ i, n = a.length - i ∧ i ≤ a.length ∧ τ = σ ∧ ts 0 = av ∧ ts 1 = bv ∧ ts 5 = .int .i64 ((i : Nat) : Int) ∧ a.take i = b.take i) a.length ?_ ?_
    · exact ⟨0, rfl, by omega, rfl, Sd0, Sd0, Sd0, by simp⟩
    rintro n ts _ ⟨i, rfl, hi, rfl, t0, t1, t5, hpre⟩
    (have fx := And.intro t0 t5; refine stepR ?_; clear fx)
    refine ml_len Sd0 ra (have fx := t0; Sd) ?_
    rw [ints_len]
    rcases Nat.lt_or_ge i a.length with hil | hig
    · have hil' : ((i : Nat) : Int) < (a.length : Int) := by omega
      (have fx := And.intro t0 (And.intro t1 (And.intro t5 hil')); refine stepR ?_; clear fx)
      refine mld_getS Sd0 ra (have fx := t0; Sd) (have fx := t5; Sd) (by omega) (by rw [Int.toNat_natCast]; exact ints_at hil) (fun p => Sd0) fun p => ?_
      (have fx := And.intro t1 t5; refine stepR ?_; clear fx)
      refine mld_getS Sd0 rb (have fx := t1; Sd) (have fx := t5; Sd) (by omega) (by rw [Int.toNat_natCast]; exact ints_at (by omega)) (fun p => Sd0) fun p => ?_
      have e1 : a.getD i 0 = a[i] := by rw [List.getD_eq_getElem?_getD, List.getElem?_eq_getElem hil]; rfl
      have e2 : b.getD i 0 = b[i]'(by omega) := by rw [List.getD_eq_getElem?_getD, List.getElem?_eq_getElem (show i < b.length by omega)]; rfl
      by_cases hx : a.getD i 0 = b.getD i 0
      · have hx' : (a.getD i 0 != b.getD i 0) = false := by rw [hx]; simp
        (have fx := And.intro hx' t5; refine stepR ?_; clear fx)
        refine ⟨_, by omega, i + 1, rfl, hil, rfl, (have fx := t0; Sd), (have fx := t1; Sd), Sd0, ?_⟩
        rw [List.take_add_one, List.take_add_one, hpre, List.getElem?_eq_getElem hil, List.getElem?_eq_getElem (show i < b.length by omega), ← e1, ← e2, hx]
      · have hx' : (a.getD i 0 != b.getD i 0) = true := by simpa using hx
        (have fx := hx'; refine stepR ?_; clear fx)
        refine fin1 ⟨?_, rfl⟩
        rw [if_neg (by rintro rfl; exact hx rfl)]
        simp only [go_sem, reduceIte, Nat.reduceEqDiff, reduceCtorEq, Nat.reduceAdd, Nat.reduceLeDiff, Int.reduceNeg, Int.reduceToNat, Int.reduceBEq, Int.reduceBNe, Int.reduceLT, Int.reduceLE, Int.reduceAdd, Int.reduceSub]
    · obtain rfl : i = a.length := by omega
      have hil' : ¬ (a.length : Int) < (a.length : Int) := by omega
      have he : a = b := by rw [List.take_length, hl, List.take_length] at hpre; exact hpre
      (have fx := hil'; refine stepR ?_; clear fx)
      refine fin1 ⟨?_, rfl⟩
      rw [if_pos he]
      simp only [go_sem, reduceIte, Nat.reduceEqDiff, reduceCtorEq, Nat.reduceAdd, Nat.reduceLeDiff, Int.reduceNeg, Int.reduceToNat, Int.reduceBEq, Int.reduceBNe, Int.reduceLT, Int.reduceLE, Int.reduceAdd, Int.reduceSub]
  · have hl' : ((a.length : Int) != (b.length : Int)) = true := by simp; omega
    (have fx := hl'; refine stepR ?_; clear fx)
    refine fin1 ⟨?_, rfl⟩
    rw [if_neg (by rintro rfl; exact hl rfl)]
    simp only [go_sem, reduceIte, Nat.reduceEqDiff, reduceCtorEq, Nat.reduceAdd, Nat.reduceLeDiff, Int.reduceNeg, Int.reduceToNat, Int.reduceBEq, Int.reduceBNe, Int.reduceLT, Int.reduceLE, Int.reduceAdd, Int.reduceSub]

set_option maxHeartbeats 4000000 in
theorem fieldPlays_c (hE : ∀ w, E w → ErrType w) (W Hh : Int) (S : ByteArray) {σ : H} {sv : Value} {srcs : List Int} (hr : Rd σ sv (ints srcs)) (step : Int) :
    MCalls E Tryd.prog 3 [mapV W Hh S, sv, .int .i64 step] σ (fun v τ => v = .bool true) := by
  refine mcalls_of fn3 (by simp) ?_
  unfold c3 r3 mapV
  refine stepR0 ?_
  refine ml_call Sd0 Sd0 (fAwake_c _) ?_
  rintro _ τ ⟨rfl, e1⟩
  have g1 := e1.cells (H.get_push_self σ _)
  have e1' := (Ext.push _ _).trans e1
  have r1 := hr.of_ext e1'
  by_cases hS : 200 < S.size
  · have hS' : (200 : Int) < (S.size : Int) := by omega
    (have fx := And.intro g1 hS'; refine stepR ?_; clear fx)
    refine ml_call Sd0 Sd0 (fAwake_c _) ?_
    rintro _ τ2 ⟨rfl, e2⟩
    refine stepR0 ?_
    exact fin1 Sd0
  have hS' : ¬ (200 : Int) < (S.size : Int) := by omega
  (have fx := And.intro g1 hS'; refine stepR ?_; clear fx)
  refine ml_len Sd0 r1 Sd0 ?_
  rw [ints_len]
  by_cases hl : 100 < srcs.length
  · have hl' : (100 : Int) < (srcs.length : Int) := by omega
    (have fx := hl'; refine stepR ?_; clear fx)
    refine ml_call Sd0 Sd0 (fAwake_c _) ?_
    rintro _ τ2 ⟨rfl, e2⟩
    refine stepR0 ?_
    exact fin1 Sd0
  have hl' : ¬ (100 : Int) < (srcs.length : Int) := by omega
  (have fx := And.intro g1 hl'; refine stepR ?_; clear fx)
  refine ml_call Sd0 Sd0 (gOf_c W Hh S τ) ?_
  rintro _ τ2 ⟨rfl, e2⟩
  have r2 := r1.of_ext e2
  have g2 := e2.cells g1
  refine stepR0 ?_
  refine ml_call Sd0 Sd0 (costs_c W Hh S srcs step sv τ2 r2) ?_
  intro v τ3 hc
  cases hok : costOK W Hh S srcs step
  · obtain ⟨ev, rfl, he, e3⟩ := cost_bad hc hok
    have g3 := e3.cells g2
    have r3 := r2.of_ext e3
    (have fx := g3; refine stepR ?_; clear fx)
    refine ml_call Sd0 Sd0 (rRight_c W Hh S τ3) ?_
    rintro _ τ4 ⟨rfl, e4⟩
    have r4 := r3.of_ext e4
    have he4 := he.of_ext e4
    refine ml_mid (fun ts τ' => τ' = τ4 ∧ ts 7 = .slice none 0 0 ∧ ts 8 = ev ∧ ts 46 = .bool true) ?_ ?_
    · cases hg : gr W Hh S
      · refine stepR0 ?_
        exact ⟨rfl, Sd0, Sd0, Sd0⟩
      by_cases h1 : step < 1
      · (have fx := h1; refine stepR ?_; clear fx)
        exact ⟨rfl, Sd0, Sd0, Sd0⟩
      by_cases h2 : 100 < step
      · (have fx := And.intro h1 h2; refine stepR ?_; clear fx)
        exact ⟨rfl, Sd0, Sd0, Sd0⟩
      have h3 : (64 : Int) < (srcs.length : Int) := by
        simp only [costOK, hg, Bool.true_and, Bool.and_eq_false_iff, decide_eq_false_iff_not] at hok
        omega
      (have fx := And.intro h1 h2; refine stepR ?_; clear fx)
      refine ml_len (have fx := And.intro h1 h2; Sd) r4 Sd0 ?_
      rw [ints_len]
      (have fx := And.intro h1 (And.intro h2 h3); refine stepR ?_; clear fx)
      exact ⟨rfl, Sd0, Sd0, (have fx := And.intro h1 (And.intro h2 h3); Sd)⟩
    rintro ts τ' ⟨rfl, t7, t8, t46⟩
    (have fx := And.intro t46 t8; refine stepR ?_; clear fx)
    refine ml_call Sd0 (have fx := t8; Sd) (tNum_c hE he4.chain) ?_
    rintro _ τ5 ⟨rfl, e5⟩
    (have fx := t7; refine stepR ?_; clear fx)
    exact fin1 Sd0
  · obtain ⟨vo, out, rfl, hcst, hout⟩ := cost_ok hc hok
    have e3 := hout.1
    have g3 := e3.cells g2
    have r3 := r2.of_ext e3
    simp only [costOK, Bool.and_eq_true, decide_eq_true_eq] at hok
    obtain ⟨⟨⟨hg, h1⟩, h2⟩, h3⟩ := hok
    have h1' : ¬ step < 1 := by omega
    have h2' : ¬ 100 < step := by omega
    have h3' : ¬ (64 : Int) < (srcs.length : Int) := by omega
    (have fx := g3; refine stepR ?_; clear fx)
    refine ml_call Sd0 Sd0 (rRight_c W Hh S τ3) ?_
    rintro _ τ4 ⟨rfl, e4⟩
    rw [hg]
    (have fx := And.intro h1' h2'; refine stepR ?_; clear fx)
    refine ml_len (have fx := And.intro h1' h2'; Sd) (r3.of_ext e4) Sd0 ?_
    rw [ints_len]
    (have fx := And.intro h1' (And.intro h2' h3'); refine stepR ?_; clear fx)
    refine ml_call Sd0 Sd0 (tNumN_c τ4) ?_
    rintro _ τ5 ⟨rfl, rfl⟩
    have g5 := e4.cells g3
    have r5 := r3.of_ext e4
    (have fx := g5; refine stepR ?_; clear fx)
    refine ml_call Sd0 Sd0 (rCosts_c W Hh S srcs step sv τ5 r5 hg h1 h2 (by omega)) ?_
    rintro rv τ6 ⟨out2, hcst2, hout2⟩
    obtain rfl := hcst.uniq hcst2
    have hS := gr_size hg
    have hol := hcst.1
    have ro := (hout.rd.of_ext e4).of_ext hout2.1
    refine stepR0 ?_
    refine ml_call Sd0 Sd0 (lInts_c ro hout2.rd (by omega)) ?_
    rintro _ τ7 ⟨rfl, rfl⟩
    rw [if_pos rfl]
    refine stepR0 ?_
    exact fin1 Sd0
end Go.Proofs.YtcjogomiiinkfaaDoor
