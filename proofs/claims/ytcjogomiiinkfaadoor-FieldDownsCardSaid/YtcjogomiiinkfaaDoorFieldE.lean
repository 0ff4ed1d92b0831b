/- FieldMore, FieldScales. -/
import Derived.Test.YtcjogomiiinkfaaDoorFieldC
namespace Go.Proofs.YtcjogomiiinkfaaDoor
open Go.Mini
open Go.Proofs.YtcjogomiiinkfaaDoor.Code
set_option linter.unusedVariables false
set_option linter.unusedSimpArgs false
set_option linter.ambiguousOpen false
attribute [local irreducible] mx ml mld mstep MCalls Ex.thn Ex.inb
variable {E : World → Prop}

theorem wk_two {W : Int} {S : ByteArray} {a b : Int} : ∀ {k : Nat} {x : Int}, Wk W S [a, b] k x ↔ (Wk W S [a] k x ∨ Wk W S [b] k x) := by
  intro k x
  constructor
  · intro h
    induction h with
    | src h ho =>
      rcases List.mem_cons.1 h with rfl | h
      · exact .inl (.src (by simp) ho)
      · simp at h; subst h; exact .inr (.src (by simp) ho)
    | step _ hn ih => exact ih.imp (fun h => .step h hn) (fun h => .step h hn)
  · rintro (h | h)
    · induction h with
      | src h ho => simp at h; subst h; exact .src (by simp) ho
      | step _ hn ih => exact .step ih hn
    · induction h with
      | src h ho => simp at h; subst h; exact .src (by simp) ho
      | step _ hn ih => exact .step ih hn
theorem cost_more {W : Int} {S : ByteArray} {a b st x f g u : Int} (hst : 1 ≤ st) (hf : CostOK W S [a] st x f) (hg : CostOK W S [b] st x g) (hu : CostOK W S [a, b] st x u) : u = if f < 0 ∨ (0 ≤ g ∧ g < f) then g else f := by
  have pos : ∀ k : Nat, 0 ≤ st * (k : Int) := fun k => Int.mul_nonneg (by omega) (by omega)
  have mono : ∀ {i j : Nat}, i ≤ j → st * (i : Int) ≤ st * (j : Int) := fun h => Int.mul_le_mul_of_nonneg_left (by omega) (by omega)
  refine hu.uniq ?_
  rcases hf with ⟨rfl, hf⟩ | ⟨kf, f1, f2, rfl⟩ <;> rcases hg with ⟨rfl, hg⟩ | ⟨kg, g1, g2, rfl⟩
  · rw [if_pos (by omega)]
    exact .inl ⟨rfl, fun k h => (wk_two.1 h).elim (hf k) (hg k)⟩
  · rw [if_pos (by omega)]
    exact .inr ⟨kg, wk_two.2 (.inr g1), fun j h => (wk_two.1 h).elim (fun h => absurd h (hf j)) (g2 j), rfl⟩
  · have := pos kf
    rw [if_neg (by omega)]
    exact .inr ⟨kf, wk_two.2 (.inl f1), fun j h => (wk_two.1 h).elim (f2 j) (fun h => absurd h (hg j)), rfl⟩
  · have p1 := pos kf
    have p2 := pos kg
    by_cases h : kg < kf
    · have h2 : st * (kg : Int) < st * (kf : Int) := Int.mul_lt_mul_of_pos_left (by omega) (by omega)
      rw [if_pos (by omega)]
      exact .inr ⟨kg, wk_two.2 (.inr g1), fun j h => (wk_two.1 h).elim (fun h => by have := f2 j h; omega) (g2 j), rfl⟩
    · have h2 : st * (kf : Int) ≤ st * (kg : Int) := mono (by omega)
      rw [if_neg (by omega)]
      exact .inr ⟨kf, wk_two.2 (.inl f1), fun j h => (wk_two.1 h).elim (f2 j) (fun h => by have := g2 j h; omega), rfl⟩
theorem cost_scale {W : Int} {S : ByteArray} {src : List Int} {st x f g : Int} (hf : CostOK W S src 1 x f) (hg : CostOK W S src st x g) : (f = -1 ∧ g = -1) ∨ ∃ m : Nat, f = m ∧ g = st * m ∧ m < S.size := by
  rcases hf with ⟨rfl, hf⟩ | ⟨kf, f1, f2, rfl⟩ <;> rcases hg with ⟨rfl, hg⟩ | ⟨kg, g1, g2, rfl⟩
  · exact .inl ⟨rfl, rfl⟩
  · exact absurd g1 (hf kg)
  · exact absurd f1 (hg kf)
  · obtain rfl := Nat.le_antisymm (f2 _ g1) (g2 _ f1)
    exact .inr ⟨kf, by simp, rfl, f1.short f2⟩
theorem two_rd {σ : H} {x y : Int} {id : Nat} (h : σ.get id = .cells 1 [.int .i64 x, .int .i64 y]) : Rd σ (.slice (some ⟨id, 0, none⟩) 2 2) (ints [x, y]) := (Own.full (sz := 1) (n := 2) (cs := ints [x, y]) h rfl).rd

set_option maxHeartbeats 4000000 in
theorem fieldScales_c (W Hh : Int) (S : ByteArray) {σ : H} {sv : Value} {srcs : List Int} (hr : Rd σ sv (ints srcs)) (step : Nat) (hst : step < 256) :
    MCalls E Tryd.prog 5 [mapV W Hh S, sv, .int .u8 step] σ (fun v τ => v = .bool true) := by
  refine mcalls_of fn5 (by simp) ?_
  unfold c5 r5 mapV
  refine stepR0 ?_
  refine ml_call Sd0 Sd0 (fAwake_c _) ?_
  rintro _ τ ⟨rfl, e1⟩
  have g1 := e1.cells (H.get_push_self σ _)
  have e1' := (Ext.push _ _).trans e1
  have r1 := hr.of_ext e1'
  (have fx := g1; refine stepR ?_; clear fx)
  refine ml_call Sd0 Sd0 (rRight_c W Hh S τ) ?_
  rintro _ τ2 ⟨rfl, e2⟩
  cases hg : gr W Hh S
  · refine stepR0 ?_
    refine ml_call Sd0 Sd0 (fAwake_c _) ?_
    rintro _ τ3 ⟨rfl, e3⟩
    refine stepR0 ?_
    exact fin1 Sd0
  have g2 := e2.cells g1
  have r2 := r1.of_ext e2
  refine stepR0 ?_
  refine ml_len Sd0 r2 Sd0 ?_
  rw [ints_len]
  by_cases hl : 64 < srcs.length
  · have hl' : (64 : Int) < (srcs.length : Int) := by omega
    (have fx := hl'; refine stepR ?_; clear fx)
    refine ml_call Sd0 Sd0 (fAwake_c _) ?_
    rintro _ τ3 ⟨rfl, e3⟩
    refine stepR0 ?_
    exact fin1 Sd0
  have hl' : ¬ (64 : Int) < (srcs.length : Int) := by omega
  have hgs := gr_size hg
  obtain ⟨hS1, hS64⟩ := hgs.2.2.2.1
  obtain ⟨k, hk1, hkm⟩ : ∃ k : Nat, k < 100 ∧ ((step : Int).tmod 100) = (k : Int) := ⟨step % 100, Nat.mod_lt _ (by omega), by rw [Int.tmod_eq_emod_of_nonneg (by omega)]; rfl⟩
  (have fx := And.intro hl' (And.intro hkm g2); refine stepR ?_; clear fx)
  refine ml_call Sd0 Sd0 (gOf_c W Hh S τ2) ?_
  rintro _ τ3 ⟨rfl, e3⟩
  have g3 := e3.cells g2
  have r3 := r2.of_ext e3
  refine stepR0 ?_
  refine ml_call Sd0 Sd0 (costs_c W Hh S srcs 1 sv τ3 r3) ?_
  intro v τ4 hc
  obtain ⟨fv, f, rfl, hcf, hof⟩ := cost_ok hc (by simp [costOK, hg]; omega)
  have e4 := hof.1
  have g4 := e4.cells g3
  have r4 := r3.of_ext e4
  (have fx := g4; refine stepR ?_; clear fx)
  refine ml_call Sd0 Sd0 (gOf_c W Hh S τ4) ?_
  rintro _ τ5 ⟨rfl, e5⟩
  have r5 := r4.of_ext e5
  (have fx := hkm; refine stepR ?_; clear fx)
  refine ml_call Sd0 (have fx := hkm; Sd) (costs_c W Hh S srcs (1 + (k : Int)) sv τ5 r5) ?_
  intro v τ6 hc2
  obtain ⟨gv, g, rfl, hcg, hog⟩ := cost_ok hc2 (by simp [costOK, hg]; omega)
  have rf : Rd τ6 fv (ints f) := (hof.rd.of_ext e5).of_ext hog.1
  have rg := hog.rd
  have lf := hcf.1
  have lg := hcg.1
  clear hc hc2 hof hog r1 r2 r3 r4 r5 g1 g2 g3 g4 e1 e1' e2 e3 e4 e5 hr
  refine stepR0 ?_
  refine mx_loop (fun n ts τ => ∃ i, n = S.size - i ∧ i ≤ S.size ∧ τ = τ6 ∧ ts 7 = .int .i64 (1 + (k : Int)) ∧ ts 8 = fv ∧ ts 9 = .nilIface ∧ ts 10 = gv ∧ ts 11 = .nilIface ∧ ts 12 = .int .i64 ((i : Nat) : Int)) S.size ?_ ?_
  · exact ⟨0, rfl, by omega, rfl, (have fx := hkm; Sd), Sd0, Sd0, Sd0, Sd0, Sd0⟩
  rintro n ts τ ⟨i, rfl, hi, rfl, t7, t8, t9, t10, t11, t12⟩
  (have fx := And.intro t8 t12; refine stepR ?_; clear fx)
  refine ml_len Sd0 rf (have fx := t8; Sd) ?_
  rw [ints_len, lf]
  rcases Nat.lt_or_ge i S.size with hil | hig
  · have hil' : ((i : Nat) : Int) < (S.size : Int) := by omega
    have hsc := cost_scale (hcf.2 i hil) (hcg.2 i hil)
    have af := ints_at (l := f) (i := i) (by omega)
    have ag := ints_at (l := g) (i := i) (by omega)
    generalize f.getD i 0 = fi at hsc af
    generalize g.getD i 0 = gi at hsc ag
    have skip : ∀ ts2 : Fr, ts2 7 = .int .i64 (1 + (k : Int)) → ts2 8 = fv → ts2 9 = .nilIface → ts2 10 = gv → ts2 11 = .nilIface → ts2 12 = .int .i64 ((i + 1 : Nat) : Int) → ∃ m, m < S.size - i ∧ ∃ i, m = S.size - i ∧ i ≤ S.size ∧ τ = τ ∧ ts2 7 = .int .i64 (1 + (k : Int)) ∧ ts2 8 = fv ∧ ts2 9 = .nilIface ∧ ts2 10 = gv ∧ ts2 11 = .nilIface ∧ ts2 12 = .int .i64 ((i : Nat) : Int) :=
      fun ts2 a b c d e f => ⟨_, by omega, i + 1, rfl, hil, rfl, a, b, c, d, e, f⟩
    rcases hsc with ⟨rfl, rfl⟩ | ⟨m, rfl, rfl, hm⟩
    · (have fx := And.intro t8 (And.intro t12 hil'); refine stepR ?_; clear fx)
      refine mld_getS Sd0 rf (have fx := t8; Sd) (have fx := t12; Sd) (by omega) (by rw [Int.toNat_natCast]; exact af) (fun p => Sd0) fun p => ?_
      (have fx := And.intro t10 t12; refine stepR ?_; clear fx)
      refine mld_getS Sd0 rg (have fx := t10; Sd) (have fx := t12; Sd) (by omega) (by rw [Int.toNat_natCast]; exact ag) (fun p => Sd0) fun p => ?_
      (have fx := And.intro t8 t12; refine stepR ?_; clear fx)
      refine mld_getS Sd0 rf (have fx := t8; Sd) (have fx := t12; Sd) (by omega) (by rw [Int.toNat_natCast]; exact af) (fun p => Sd0) fun p => ?_
      (have fx := t12; refine stepR ?_; clear fx)
      exact ⟨_, by omega, i + 1, rfl, hil, rfl, (have fx := t7; Sd), (have fx := t8; Sd), (have fx := t9; Sd), (have fx := t10; Sd), (have fx := t11; Sd), Sd0⟩
    · have hm1 : ¬ ((m : Nat) : Int) < 0 := by omega
      have hm2 : (0 : Int) ≤ ((m : Nat) : Int) := by omega
      have hmul : (1 + (k : Int)) * (m : Int) ≤ 100 * 64 := Int.mul_le_mul (by omega) (by omega) (by omega) (by omega)
      have hmul0 : 0 ≤ (1 + (k : Int)) * (m : Int) := Int.mul_nonneg (by omega) (by omega)
      have hnn : ((1 + (k : Int)) * (m : Int) != (1 + (k : Int)) * (m : Int)) = false := by simp
      (have fx := And.intro t8 (And.intro t12 hil'); refine stepR ?_; clear fx)
      refine mld_getS Sd0 rf (have fx := t8; Sd) (have fx := t12; Sd) (by omega) (by rw [Int.toNat_natCast]; exact af) (fun p => Sd0) fun p => ?_
      (have fx := And.intro hm1 (And.intro t8 t12); refine stepR ?_; clear fx)
      refine mld_getS (have fx := hm1; Sd) rf (have fx := t8; Sd) (have fx := t12; Sd) (by omega) (by rw [Int.toNat_natCast]; exact af) (fun p => (have fx := hm1; Sd)) fun p => ?_
      (have fx := And.intro hm1 (And.intro hm2 (And.intro t10 t12)); refine stepR ?_; clear fx)
      refine mld_getS (have fx := And.intro hm1 hm2; Sd) rg (have fx := t10; Sd) (have fx := t12; Sd) (by omega) (by rw [Int.toNat_natCast]; exact ag) (fun p => (have fx := And.intro hm1 hm2; Sd)) fun p => ?_
      (have fx := And.intro hm1 (And.intro hm2 (And.intro t7 (And.intro t8 t12))); refine stepR ?_; clear fx)
      refine mld_getS (have fx := And.intro hm1 hm2; Sd) rf (have fx := t8; Sd) (have fx := t12; Sd) (by omega) (by rw [Int.toNat_natCast]; exact af) (fun p => (have fx := And.intro hm1 hm2; Sd)) fun p => ?_
      (have fx := And.intro hm1 (And.intro hm2 (And.intro t7 (And.intro t12 hnn))); refine stepR ?_; clear fx)
      exact ⟨_, by omega, i + 1, rfl, hil, rfl, (have fx := t7; Sd), (have fx := t8; Sd), (have fx := t9; Sd), (have fx := t10; Sd), (have fx := t11; Sd), Sd0⟩
  · obtain rfl : i = S.size := by omega
    have hil' : ¬ (S.size : Int) < (S.size : Int) := by omega
    have heq : ((S.size : Int) == (S.size : Int)) = true := by simp
    (have fx := And.intro t9 hil'; refine stepR ?_; clear fx)
    refine ml_call Sd0 (have fx := t9; Sd) (tNumN_c τ) ?_
    rintro _ τ2 ⟨rfl, rfl⟩
    (have fx := t11; refine stepR ?_; clear fx)
    refine ml_call Sd0 (have fx := t11; Sd) (tNumN_c _) ?_
    rintro _ τ2 ⟨rfl, rfl⟩
    (have fx := t8; refine stepR ?_; clear fx)
    refine ml_len Sd0 rf (have fx := t8; Sd) ?_
    rw [ints_len, lf]
    (have fx := t10; refine stepR ?_; clear fx)
    refine ml_len Sd0 rg (have fx := t10; Sd) ?_
    rw [ints_len, lg]
    (have fx := heq; refine stepR ?_; clear fx)
    exact fin1 (have fx := heq; Sd)

set_option maxHeartbeats 4000000 in
theorem fieldMore_c (W Hh : Int) (S : ByteArray) {σ : H} (a b : Nat) (ha : a < 256) (hb : b < 256) :
    MCalls E Tryd.prog 4 [mapV W Hh S, .int .u8 a, .int .u8 b] σ (fun v τ => v = .bool true) := by
  refine mcalls_of fn4 (by simp) ?_
  unfold c4 r4 mapV
  refine stepR0 ?_
  refine ml_call Sd0 Sd0 (fAwake_c _) ?_
  rintro _ τ ⟨rfl, e1⟩
  have g1 := e1.cells (H.get_push_self σ _)
  (have fx := g1; refine stepR ?_; clear fx)
  refine ml_call Sd0 Sd0 (rRight_c W Hh S τ) ?_
  rintro _ τ2 ⟨rfl, e2⟩
  cases hg : gr W Hh S
  · refine stepR0 ?_
    refine ml_call Sd0 Sd0 (fAwake_c _) ?_
    rintro _ τ3 ⟨rfl, e3⟩
    refine stepR0 ?_
    exact fin1 Sd0
  have g2 := e2.cells g1
  have hgs := gr_size hg
  obtain ⟨hS1, hS64⟩ := hgs.2.2.2.1
  have hSne : (S.size : Int) ≠ 0 := by omega
  have hmod : ∀ c : Nat, ∃ k : Nat, k < S.size ∧ ((c : Int).tmod (S.size : Int)) = (k : Int) := fun c => ⟨c % S.size, Nat.mod_lt _ (by omega), by rw [Int.tmod_eq_emod_of_nonneg (by omega)]; rfl⟩
  obtain ⟨i, hi, him⟩ := hmod a
  obtain ⟨k, hk, hkm⟩ := hmod b
  (have fx := g2; refine stepR ?_; clear fx)
  refine ml_call Sd0 Sd0 (gOf_c W Hh S τ2) ?_
  rintro _ τ3 ⟨rfl, e3⟩
  have g3 := e3.cells g2
  refine stepR0 ?_
  refine ml_init (vs := mapC W Hh S) Sd0 Sd0 Sd0 rfl rfl rfl fun τ4 e4 g7 => ?_
  have g4 := e4.cells g3
  have g7' : τ4.get τ3.size = .cells 0 [.int .i64 W, .int .i64 Hh, .string S] := g7
  have hok : ∀ l : List Int, l.length ≤ 64 → costOK W Hh S l 3 = true := fun l h => by simp [costOK, hg]; exact h
  generalize τ3.size = xid at g7' ⊢
  clear g7 g3 g2 g1 e1 e2 e3 e4
  (have fx := And.intro g4 (And.intro g7' (And.intro him hkm)); refine stepR ?_; clear fx)
  refine ml_call Sd0 Sd0 (costs_c W Hh S [(i : Int)] 3 _ _ (one_rd (H.get_push_self _ _))) ?_
  intro v τ5 hc1
  obtain ⟨fv, f, rfl, hcf, hof⟩ := cost_ok hc1 (hok _ (by simp))
  have g5 := hof.1.cells ((Ext.push _ _).cells g4)
  have g57 := hof.1.cells ((Ext.push _ _).cells g7')
  (have fx := g57; refine stepR ?_; clear fx)
  refine ml_call Sd0 Sd0 (costs_c W Hh S [(k : Int)] 3 _ _ (one_rd (H.get_push_self _ _))) ?_
  intro v τ6 hc2
  obtain ⟨gv, g, rfl, hcg, hog⟩ := cost_ok hc2 (hok _ (by simp))
  have g6 := hog.1.cells ((Ext.push _ _).cells g5)
  have g67 := hog.1.cells ((Ext.push _ _).cells g57)
  have rf6 : Rd τ6 fv (ints f) := (hof.rd.of_ext (Ext.push _ _)).of_ext hog.1
  (have fx := g67; refine stepR ?_; clear fx)
  refine ml_call Sd0 Sd0 (costs_c W Hh S [(i : Int), (k : Int)] 3 _ _ (two_rd (H.get_push_self _ _))) ?_
  intro v τ7 hc3
  obtain ⟨uv, u, rfl, hcu, hou⟩ := cost_ok hc3 (hok _ (by simp))
  have g7 : τ7.get σ.size = .cells 0 [.int .i64 W, .int .i64 Hh, .string S] := hou.1.cells ((Ext.push _ _).cells g6)
  have rf : Rd τ7 fv (ints f) := (rf6.of_ext (Ext.push _ _)).of_ext hou.1
  have rg : Rd τ7 gv (ints g) := (hog.rd.of_ext (Ext.push _ _)).of_ext hou.1
  have ru : Rd τ7 uv (ints u) := hou.rd
  have lf := hcf.1
  have lg := hcg.1
  have lu := hcu.1
  clear hc1 hc2 hc3 hof hog hou rf6 g4 g5 g57 g6 g67 g7' hok
  refine stepR0 ?_
  refine mx_loop (fun n ts τ => ∃ q, n = S.size - q ∧ q ≤ S.size ∧ τ = τ7 ∧ ts 3 = .pointer (some ⟨σ.size, 0, none⟩) ∧ ts 10 = fv ∧ ts 11 = .nilIface ∧ ts 12 = gv ∧ ts 13 = .nilIface ∧ ts 14 = uv ∧ ts 15 = .nilIface ∧ ts 16 = .int .i64 ((q : Nat) : Int)) S.size ?_ ?_
  · exact ⟨0, rfl, by omega, rfl, Sd0, Sd0, Sd0, Sd0, Sd0, Sd0, Sd0, Sd0⟩
  rintro n ts τ ⟨q, rfl, hq, rfl, t3, t10, t11, t12, t13, t14, t15, t16⟩
  rcases Nat.lt_or_ge q S.size with hql | hqg
  · have hql' : ((q : Nat) : Int) < (S.size : Int) := by omega
    have hmo := cost_more (by omega) (hcf.2 q hql) (hcg.2 q hql) (hcu.2 q hql)
    have af := ints_at (l := f) (i := q) (by omega)
    have ag := ints_at (l := g) (i := q) (by omega)
    have au := ints_at (l := u) (i := q) (by omega)
    generalize f.getD q 0 = fi at hmo af
    generalize g.getD q 0 = gi at hmo ag
    generalize u.getD q 0 = ui at hmo au
    (have fx := And.intro t3 (And.intro t16 (And.intro g7 hql')); refine stepR ?_; clear fx)
    refine ml_getS rf (have fx := t10; Sd) (have fx := t16; Sd) (by omega) (by rw [Int.toNat_natCast]; exact af) fun p => ?_
    have hnn : ∀ z : Int, (z != z) = false := fun z => by simp
    have nn1 := hnn fi
    have nn2 := hnn gi
    by_cases h1 : fi < 0
    · rw [if_pos (by omega)] at hmo
      subst hmo
      (have fx := And.intro h1 (And.intro t12 t16); refine stepR ?_; clear fx)
      refine ml_getS rg (have fx := t12; Sd) (have fx := t16; Sd) (by omega) (by rw [Int.toNat_natCast]; exact ag) fun p => ?_
      (have fx := And.intro t14 t16; refine stepR ?_; clear fx)
      refine ml_getS ru (have fx := t14; Sd) (have fx := t16; Sd) (by omega) (by rw [Int.toNat_natCast]; exact au) fun p => ?_
      (have fx := And.intro nn2 t16; refine stepR ?_; clear fx)
      exact ⟨_, by omega, q + 1, rfl, hql, rfl, (have fx := t3; Sd), (have fx := t10; Sd), (have fx := t11; Sd), (have fx := t12; Sd), (have fx := t13; Sd), (have fx := t14; Sd), (have fx := t15; Sd), Sd0⟩
    · (have fx := And.intro h1 (And.intro t12 t16); refine stepR ?_; clear fx)
      refine ml_getSg (have fx := h1; Sd) rg (have fx := t12; Sd) (have fx := t16; Sd) (by omega) (by rw [Int.toNat_natCast]; exact ag) (fun p => (have fx := h1; Sd)) fun p => ?_
      by_cases h2 : 0 ≤ gi
      · (have fx := And.intro h1 (And.intro h2 (And.intro t12 t16)); refine stepR ?_; clear fx)
        refine ml_getSg (have fx := And.intro h1 h2; Sd) rg (have fx := t12; Sd) (have fx := t16; Sd) (by omega) (by rw [Int.toNat_natCast]; exact ag) (fun p => (have fx := And.intro h1 h2; Sd)) fun p => ?_
        by_cases h3 : gi < fi
        · rw [if_pos (by omega)] at hmo
          subst hmo
          (have fx := And.intro h1 (And.intro h2 (And.intro h3 (And.intro t12 t16))); refine stepR ?_; clear fx)
          refine ml_getS rg (have fx := t12; Sd) (have fx := t16; Sd) (by omega) (by rw [Int.toNat_natCast]; exact ag) fun p => ?_
          (have fx := And.intro t14 t16; refine stepR ?_; clear fx)
          refine ml_getS ru (have fx := t14; Sd) (have fx := t16; Sd) (by omega) (by rw [Int.toNat_natCast]; exact au) fun p => ?_
          (have fx := And.intro nn2 t16; refine stepR ?_; clear fx)
          exact ⟨_, by omega, q + 1, rfl, hql, rfl, (have fx := t3; Sd), (have fx := t10; Sd), (have fx := t11; Sd), (have fx := t12; Sd), (have fx := t13; Sd), (have fx := t14; Sd), (have fx := t15; Sd), Sd0⟩
        · rw [if_neg (by omega)] at hmo
          subst hmo
          (have fx := And.intro h1 (And.intro h2 (And.intro h3 (And.intro t14 t16))); refine stepR ?_; clear fx)
          refine ml_getS ru (have fx := t14; Sd) (have fx := t16; Sd) (by omega) (by rw [Int.toNat_natCast]; exact au) fun p => ?_
          (have fx := And.intro nn1 t16; refine stepR ?_; clear fx)
          exact ⟨_, by omega, q + 1, rfl, hql, rfl, (have fx := t3; Sd), (have fx := t10; Sd), (have fx := t11; Sd), (have fx := t12; Sd), (have fx := t13; Sd), (have fx := t14; Sd), (have fx := t15; Sd), Sd0⟩
      · rw [if_neg (by omega)] at hmo
        subst hmo
        (have fx := And.intro h1 (And.intro h2 (And.intro t14 t16)); refine stepR ?_; clear fx)
        refine ml_getS ru (have fx := t14; Sd) (have fx := t16; Sd) (by omega) (by rw [Int.toNat_natCast]; exact au) fun p => ?_
        (have fx := And.intro nn1 t16; refine stepR ?_; clear fx)
        exact ⟨_, by omega, q + 1, rfl, hql, rfl, (have fx := t3; Sd), (have fx := t10; Sd), (have fx := t11; Sd), (have fx := t12; Sd), (have fx := t13; Sd), (have fx := t14; Sd), (have fx := t15; Sd), Sd0⟩
  · obtain rfl : q = S.size := by omega
    have hnl : ¬ (S.size : Int) < (S.size : Int) := by omega
    (have fx := And.intro t3 (And.intro t16 (And.intro g7 (And.intro hnl t11))); refine stepR ?_; clear fx)
    refine ml_call Sd0 (have fx := t11; Sd) (tNumN_c τ) ?_
    rintro _ τ2 ⟨rfl, rfl⟩
    (have fx := t13; refine stepR ?_; clear fx)
    refine ml_call Sd0 (have fx := t13; Sd) (tNumN_c _) ?_
    rintro _ τ2 ⟨rfl, rfl⟩
    (have fx := t15; refine stepR ?_; clear fx)
    refine ml_call Sd0 (have fx := t15; Sd) (tNumN_c _) ?_
    rintro _ τ2 ⟨rfl, rfl⟩
    refine stepR0 ?_
    exact fin1 Sd0
end Go.Proofs.YtcjogomiiinkfaaDoor
