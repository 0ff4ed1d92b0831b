import Derived.Test.YtgfmphjccnemmaaDoorSafeG
namespace Go.Proofs.YtgfmphjccnemmaaDoor
open Go.Mini
open Go.Proofs.YtgfmphjccnemmaaDoor.Code
set_option linter.unusedVariables false
set_option linter.unusedSimpArgs false
set_option linter.ambiguousOpen false
attribute [local irreducible] mx ml mld mstep MCalls Ex.thn Ex.inb

theorem need_nonneg {W Hh : Int} {S : ByteArray} {a : List Int} {step c n : Int} (h : needO W Hh S a step c = some n) : 0 ≤ n ∧ 1 ≤ step ∧ step ≤ 100 ∧ opn S c = true ∧ gr W Hh S = true := by
  obtain ⟨hok, ho, k, _, _, rfl⟩ := need_spec h
  obtain ⟨hg, h1, h2, _⟩ := costOK_iff.1 hok
  exact ⟨Int.mul_nonneg (by omega) (by omega), h1, h2, ho, hg⟩
theorem need_costV {W Hh : Int} {S : ByteArray} {a : List Int} {step c : Int} (hok : costOK W Hh S a step = true) : costV step (dist W S a c) = (needO W Hh S a step c).getD (-1) := by
  unfold needO
  rw [hok, Bool.true_and]
  cases ho : opn S c
  · have : dist W S a c = none := dist_none fun k hk => by have := hk.opn; rw [ho] at this; cases this
    rw [this]; rfl
  · rw [if_pos rfl]
    cases dist W S a c <;> rfl

theorem rNeed_c {σ : H} (W Hh : Int) (S : ByteArray) {ov : Value} {on : List Int} (hr : Rd σ ov (ints on)) (hl : on.length ≤ 1000) (c step : Int) :
    MCalls Tryd.prog 24 [mapV W Hh S, ov, .int .i64 c, .int .i64 step] σ (fun v τ => v = .int .i64 ((needO W Hh S on step c).getD (-1)) ∧ Ext σ τ) := by
  refine mcalls_of fn24 (by simp) ?_
  unfold c24 r24 mapV
  have hln : (ints on).length = on.length := ints_len _
  refine stepR0 ?_
  generalize hτ : H.push _ _ = τ
  have gm : τ.get σ.size = .cells 0 (mapC W Hh S) := by rw [← hτ]; exact H.get_push_self _ _
  have e1 : Ext σ τ := hτ ▸ Ext.push _ _
  clear hτ
  (have fx := gm; refine stepR ?_; clear fx)
  refine ml_call Sd0 Sd0 (rRight_c W Hh S τ) ?_
  rintro _ τ2 ⟨rfl, e2⟩
  have gm2 := e2.cells gm
  have e12 := e1.trans e2
  have rd2 := hr.of_ext e12
  refine ml_mid (fun ts τ => τ = τ2 ∧ ts 1 = ov ∧ ts 2 = .int .i64 c ∧ ts 3 = .int .i64 step ∧ ts 4 = .pointer (some ⟨σ.size, 0, none⟩) ∧ ts 35 = .bool (!(costOK W Hh S on step && (decide (0 ≤ c) && decide (c < S.size))))) ?_ ?_
  · cases hg : gr W Hh S
    · have hk : costOK W Hh S on step = false := by unfold costOK; rw [hg]; rfl
      refine stepR0 ?_
      exact ⟨rfl, Sd0, Sd0, Sd0, Sd0, (have fx := hk; Sd)⟩
    by_cases h1 : step < 1
    · have hk : costOK W Hh S on step = false := by rw [← Bool.not_eq_true, costOK_iff]; omega
      (have fx := h1; refine stepR ?_; clear fx)
      exact ⟨rfl, Sd0, Sd0, Sd0, Sd0, (have fx := And.intro hk h1; Sd)⟩
    by_cases h2 : 100 < step
    · have hk : costOK W Hh S on step = false := by rw [← Bool.not_eq_true, costOK_iff]; omega
      (have fx := And.intro h1 h2; refine stepR ?_; clear fx)
      exact ⟨rfl, Sd0, Sd0, Sd0, Sd0, (have fx := And.intro hk (And.intro h1 h2); Sd)⟩
    (have fx := And.intro h1 h2; refine stepR ?_; clear fx)
    refine ml_len (have fx := And.intro h1 h2; Sd) rd2 Sd0 ?_
    rw [hln]
    by_cases h3 : (64 : Int) < (on.length : Int)
    · have hk : costOK W Hh S on step = false := by rw [← Bool.not_eq_true, costOK_iff]; omega
      (have fx := And.intro h1 (And.intro h2 h3); refine stepR ?_; clear fx)
      exact ⟨rfl, Sd0, Sd0, Sd0, Sd0, (have fx := And.intro hk (And.intro h1 (And.intro h2 h3)); Sd)⟩
    have hk : costOK W Hh S on step = true := costOK_iff.2 ⟨hg, by omega, by omega, by omega⟩
    by_cases h4 : c < 0
    · have h4' : ¬ 0 ≤ c := by omega
      (have fx := And.intro h1 (And.intro h2 (And.intro h3 h4)); refine stepR ?_; clear fx)
      exact ⟨rfl, Sd0, Sd0, Sd0, Sd0, (have fx := And.intro hk (And.intro h1 (And.intro h2 (And.intro h3 (And.intro h4 h4')))); Sd)⟩
    have h4' : 0 ≤ c := by omega
    by_cases h5 : (S.size : Int) ≤ c
    · have h5' : ¬ c < (S.size : Int) := by omega
      (have fx := And.intro h1 (And.intro h2 (And.intro h3 (And.intro h4 (And.intro h5 gm2)))); refine stepR ?_; clear fx)
      exact ⟨rfl, Sd0, Sd0, Sd0, Sd0, (have fx := And.intro hk (And.intro h1 (And.intro h2 (And.intro h3 (And.intro h4 (And.intro h4' (And.intro h5 h5')))))); Sd)⟩
    · have h5' : c < (S.size : Int) := by omega
      (have fx := And.intro h1 (And.intro h2 (And.intro h3 (And.intro h4 (And.intro h5 gm2)))); refine stepR ?_; clear fx)
      exact ⟨rfl, Sd0, Sd0, Sd0, Sd0, (have fx := And.intro hk (And.intro h1 (And.intro h2 (And.intro h3 (And.intro h4 (And.intro h4' (And.intro h5 h5')))))); Sd)⟩
  rintro ts τ2 ⟨rfl, t1, t2, t3, t4, t35⟩
  have hnone : (costOK W Hh S on step && (decide (0 ≤ c) && decide (c < S.size))) = false → needO W Hh S on step c = none := fun h => by
    cases hn : needO W Hh S on step c with
    | none => rfl
    | some n =>
      obtain ⟨hok, ho, _⟩ := need_spec hn
      have := opn_lt ho
      rw [hok, decide_eq_true this.1, decide_eq_true this.2] at h; cases h
  rcases Bool.eq_false_or_eq_true (costOK W Hh S on step && (decide (0 ≤ c) && decide (c < S.size))) with hk | hk
  · rw [hk] at t35
    simp only [Bool.and_eq_true, decide_eq_true_eq] at hk
    obtain ⟨hok, hc0, hc1⟩ := hk
    obtain ⟨hg, h1, h2, h3⟩ := costOK_iff.1 hok
    (have fx := And.intro t35 (And.intro t1 (And.intro t3 (And.intro t4 gm2))); refine stepR ?_; clear fx)
    refine ml_call Sd0 (have fx := And.intro t1 t3; Sd) (rCosts_c W Hh S on step ov τ2 rd2 hg h1 h2 hl) ?_
    rintro vo τ3 ⟨out, hcst, e3, oid, own, _⟩
    have hct : c.toNat < S.size := by omega
    have hget := ints_at (l := out) (i := c.toNat) (by rw [hcst.1]; exact hct)
    rw [hcst.get hct, Int.toNat_of_nonneg hc0, need_costV hok] at hget
    (have fx := t2; refine stepR ?_; clear fx)
    refine ml_getS own.rd Sd0 (have fx := t2; Sd) hc0 hget fun p => ?_
    refine stepR0 ?_
    exact fin1 ⟨Sd0, e12.trans e3⟩
  · rw [hk] at t35
    rw [hnone hk]
    (have fx := t35; refine stepR ?_; clear fx)
    exact fin1 ⟨Sd0, e12⟩
end Go.Proofs.YtgfmphjccnemmaaDoor
namespace Go.Proofs.YtgfmphjccnemmaaDoor
open Go.Mini
open Go.Proofs.YtgfmphjccnemmaaDoor.Code
set_option linter.unusedVariables false
set_option linter.unusedSimpArgs false
set_option linter.ambiguousOpen false
attribute [local irreducible] mx ml mld mstep MCalls Ex.thn Ex.inb

theorem opn_int {S : ByteArray} {c : Int} (h0 : 0 ≤ c) (h1 : c < S.size) : (((S.data.toList.getD c.toNat 0).toNat : Int) != 35) = opn S c := by
  have h := opn_nat (S := S) (i := c.toNat) (by omega)
  rw [Int.toNat_of_nonneg h0] at h; exact h
theorem opn_out {S : ByteArray} {c : Int} (h : ¬ (0 ≤ c ∧ c < S.size)) : opn S c = false := by
  rw [← Bool.not_eq_true]; exact fun h2 => h (opn_lt h2)
theorem may_ref {W Hh : Int} {S : ByteArray} {on : List Int} {step c to charge : Int} :
    mayB W Hh S on step c to charge = ((gr W Hh S && opn S c && opn S to) && beside W c to && (needO W Hh S on step to).isSome && decide (step ≤ charge) && decide ((needO W Hh S on step to).getD (-1) ≤ charge - step)) := by
  unfold mayB safeB gnear
  rw [Bool.eq_iff_iff]
  cases hN : needO W Hh S on step to with
  | none => simp
  | some n =>
    obtain ⟨_, _, _, ho, hg⟩ := need_nonneg hN
    have hW := (gr_size hg).1
    rw [hg, ho]
    cases hc : opn S c
    · simp
    · simp only [Bool.and_self, if_true, Option.any_some, Option.isSome_some, Option.getD_some, Bool.and_true, Bool.true_and, Bool.and_eq_true, decide_eq_true_eq]
      rw [near_iff hW hc, ho]; simp [and_assoc]

set_option maxHeartbeats 4000000 in
theorem safeNeeds_c {σ : H} (W Hh : Int) (S : ByteArray) {ov : Value} {on : List Int} (hr : Rd σ ov (ints on)) (c to charge step : Int)
    (hc1 : -9223372036854775808 ≤ charge) (hc2 : charge ≤ 9223372036854775807) (hs1 : -9223372036854775808 ≤ step) (hs2 : step ≤ 9223372036854775807) :
    MCalls Tryd.prog 7 [mapV W Hh S, ov, .int .i64 c, .int .i64 to, .int .i64 charge, .int .i64 step] σ (fun v _ => v = .bool true) := by
  refine mcalls_of fn7 (by simp) ?_
  unfold c7 r7 mapV
  have hln : (ints on).length = on.length := ints_len _
  refine stepR0 ?_
  generalize hτ : H.push _ _ = τ
  have gm : τ.get σ.size = .cells 0 (mapC W Hh S) := by rw [← hτ]; exact H.get_push_self _ _
  have e0 : Ext σ τ := hτ ▸ Ext.push _ _
  clear hτ
  have rd := hr.of_ext e0
  generalize σ.size = im at gm
  refine ml_call Sd0 Sd0 (sAwake_c τ) ?_
  rintro _ τ1 ⟨rfl, e1⟩
  have gm1 := e1.cells gm
  have rd1 := rd.of_ext e1
  -- too much
  by_cases hbig : (200 : Int) < (S.size : Int)
  · (have fx := And.intro gm1 hbig; refine stepR ?_; clear fx)
    refine ml_call Sd0 Sd0 (sAwake_c τ1) ?_
    rintro _ τ3 ⟨rfl, e3⟩
    refine stepR0 ?_
    exact fin1 Sd0
  (have fx := And.intro gm1 hbig; refine stepR ?_; clear fx)
  refine ml_len (have fx := hbig; Sd) rd1 Sd0 ?_
  rw [hln]
  by_cases hbig2 : (100 : Int) < (on.length : Int)
  · (have fx := And.intro hbig hbig2; refine stepR ?_; clear fx)
    refine ml_call Sd0 Sd0 (sAwake_c τ1) ?_
    rintro _ τ3 ⟨rfl, e3⟩
    refine stepR0 ?_
    exact fin1 Sd0
  (have fx := And.intro gm1 (And.intro hbig hbig2); refine stepR ?_; clear fx)
  refine ml_call Sd0 Sd0 (gOf_c W Hh S τ1) ?_
  rintro _ τ2 ⟨rfl, e2⟩
  have rd2 := rd1.of_ext e2
  refine stepR0 ?_
  refine ml_call Sd0 Sd0 (need_c W Hh S rd2 c step) ?_
  rintro _ τ3 ⟨rfl, e3⟩
  have gm3 := (e2.trans e3).cells gm1
  have rd3 := rd2.of_ext e3
  (have fx := gm3; refine stepR ?_; clear fx)
  refine ml_call Sd0 Sd0 (rNeed_c W Hh S rd3 (by omega) c step) ?_
  rintro _ τ4 ⟨rfl, e4⟩
  have gm4 := e4.cells gm3
  have rd4 := rd3.of_ext e4
  clear gm3 gm1 gm rd3 rd2 rd1 rd
  have hsafe : safeB W Hh S on step c charge = (needO W Hh S on step c).any (fun n => decide (n ≤ charge)) := rfl
  have hnn : ∀ n, needO W Hh S on step c = some n → 0 ≤ n := fun n h => (need_nonneg h).1
  generalize hN : needO W Hh S on step c = N at hsafe hnn
  refine ml_mid (fun ts τ => τ = τ4 ∧ ts 15 = .int .i64 (N.getD (-1)) ∧ ts 13 = .int .i64 (N.getD 0) ∧ ts 14 = .bool N.isSome ∧ ts 1 = ov ∧ ts 2 = .int .i64 c ∧ ts 3 = .int .i64 to ∧ ts 4 = .int .i64 charge ∧ ts 5 = .int .i64 step ∧ ts 6 = .pointer (some ⟨im, 0, none⟩)) ?_ ?_
  · refine stepR0 ?_
    exact ⟨rfl, Sd0, Sd0, Sd0, Sd0, Sd0, Sd0, Sd0, Sd0, Sd0⟩
  rintro ts τ4 ⟨rfl, t15, t13, t14, t1, t2, t3, t4, t5, t6⟩
  refine thn_nor (mx_seq (mx_seq (mx_ops ?_)))
  refine ml_mid (fun ts τ => ts 82 = .bool false ∧ τ.get im = .cells 0 (mapC W Hh S) ∧ Rd τ ov (ints on) ∧ ts 1 = ov ∧ ts 2 = .int .i64 c ∧ ts 3 = .int .i64 to ∧ ts 4 = .int .i64 charge ∧ ts 5 = .int .i64 step ∧ ts 6 = .pointer (some ⟨im, 0, none⟩)) ?_ ?_
  · cases N with
    | none =>
      have hsf : safeB W Hh S on step c charge = false := hsafe
      (have fx := And.intro t15 (And.intro t13 (And.intro t14 (And.intro t6 gm4))); refine stepR ?_; clear fx)
      refine ml_call Sd0 Sd0 (gOf_c W Hh S τ4) ?_
      rintro _ τ5 ⟨rfl, e5⟩
      (have fx := And.intro t1 (And.intro t2 (And.intro t4 t5)); refine stepR ?_; clear fx)
      refine ml_call Sd0 (have fx := And.intro t1 (And.intro t2 (And.intro t4 t5)); Sd) (safe_c W Hh S (rd4.of_ext e5) c charge step) ?_
      rw [hsf]
      rintro _ τ6 ⟨rfl, e6⟩
      (have fx := t14; refine stepR ?_; clear fx)
      exact ⟨Sd0, (e5.trans e6).cells gm4, rd4.of_ext (e5.trans e6), (have fx := t1; Sd), (have fx := t2; Sd), (have fx := t3; Sd), (have fx := t4; Sd), (have fx := t5; Sd), (have fx := t6; Sd)⟩
    | some n =>
      have hsf : safeB W Hh S on step c charge = decide (n ≤ charge) := hsafe
      have h0 := hnn n rfl
      have hne : (n != n) = false := bne_self_eq_false _
      have hdd : (decide (n ≤ charge) != decide (n ≤ charge)) = false := bne_self_eq_false _
      (have fx := And.intro t15 (And.intro t13 (And.intro t14 (And.intro t6 (And.intro gm4 (And.intro h0 hne))))); refine stepR ?_; clear fx)
      refine ml_call (have fx := And.intro h0 hne; Sd) Sd0 (gOf_c W Hh S τ4) ?_
      rintro _ τ5 ⟨rfl, e5⟩
      (have fx := And.intro t1 (And.intro t2 (And.intro t4 (And.intro t5 (And.intro h0 hne)))); refine stepR ?_; clear fx)
      refine ml_call (have fx := And.intro h0 hne; Sd) (have fx := And.intro t1 (And.intro t2 (And.intro t4 t5)); Sd) (safe_c W Hh S (rd4.of_ext e5) c charge step) ?_
      rw [hsf]
      rintro _ τ6 ⟨rfl, e6⟩
      (have fx := And.intro t14 (And.intro t4 (And.intro t15 (And.intro h0 (And.intro hne hdd)))); refine stepR ?_; clear fx)
      exact ⟨(have fx := hdd; Sd), (e5.trans e6).cells gm4, rd4.of_ext (e5.trans e6), (have fx := t1; Sd), (have fx := t2; Sd), (have fx := t3; Sd), (have fx := t4; Sd), (have fx := t5; Sd), (have fx := t6; Sd)⟩
  clear t15 t13 t14 t1 t2 t3 t4 t5 t6 gm4 rd4
  rintro ts τ5 ⟨t82, gm5, rd5, t1, t2, t3, t4, t5, t6⟩
  (have fx := And.intro t82 (And.intro t1 (And.intro t2 (And.intro t3 (And.intro t4 (And.intro t5 (And.intro t6 gm5)))))); refine stepR ?_; clear fx)
  refine ml_call Sd0 Sd0 (gOf_c W Hh S τ5) ?_
  rintro _ τ6 ⟨rfl, e6⟩
  have gm6 := e6.cells gm5
  have rd6 := rd5.of_ext e6
  (have fx := And.intro t1 (And.intro t2 (And.intro t3 (And.intro t4 t5))); refine stepR ?_; clear fx)
  refine ml_call Sd0 (have fx := And.intro t1 (And.intro t2 (And.intro t3 (And.intro t4 t5))); Sd) (may_c W Hh S rd6 c to charge step hc1 hc2 hs1 hs2) ?_
  rintro _ τ7 ⟨rfl, e7⟩
  have gm7 := e7.cells gm6
  have rd7 := rd6.of_ext e7
  (have fx := And.intro t1 (And.intro t3 (And.intro t5 (And.intro t6 gm7))); refine stepR ?_; clear fx)
  refine ml_call Sd0 (have fx := And.intro t1 (And.intro t3 t5); Sd) (rNeed_c W Hh S rd7 (by omega) to step) ?_
  rintro _ τ8 ⟨rfl, e8⟩
  have gm8 := e8.cells gm7
  (have fx := And.intro t6 gm8; refine stepR ?_; clear fx)
  refine ml_call Sd0 Sd0 (rRight_c W Hh S τ8) ?_
  rintro _ τ9 ⟨rfl, e9⟩
  have gm9 := e9.cells gm8
  rw [may_ref]
  have hnt : ∀ n, needO W Hh S on step to = some n → 0 ≤ n ∧ 1 ≤ step ∧ step ≤ 100 ∧ opn S to = true ∧ gr W Hh S = true := fun n h => need_nonneg h
  generalize needO W Hh S on step to = N2 at hnt
  refine ml_mid (fun ts τ => τ = τ9 ∧ ts 18 = .bool (gr W Hh S && opn S c && opn S to) ∧ ts 16 = .bool ((gr W Hh S && opn S c && opn S to) && beside W c to && N2.isSome && decide (step ≤ charge) && decide (N2.getD (-1) ≤ charge - step)) ∧ ts 17 = .int .i64 (N2.getD (-1)) ∧ ts 2 = .int .i64 c ∧ ts 3 = .int .i64 to ∧ ts 4 = .int .i64 charge ∧ ts 5 = .int .i64 step ∧ ts 6 = .pointer (some ⟨im, 0, none⟩)) ?_ ?_
  · cases hg : gr W Hh S
    · (have fx := And.intro t2 (And.intro t3 t6); refine stepR ?_; clear fx)
      exact ⟨rfl, Sd0, Sd0, Sd0, (have fx := t2; Sd), (have fx := t3; Sd), (have fx := t4; Sd), (have fx := t5; Sd), (have fx := t6; Sd)⟩
    by_cases h1 : 0 ≤ c
    rotate_left
    · have ho := opn_out (S := S) (c := c) (fun h => h1 h.1)
      (have fx := And.intro t2 (And.intro t3 (And.intro t6 h1)); refine stepR ?_; clear fx)
      exact ⟨rfl, (have fx := And.intro h1 ho; Sd), (have fx := ho; Sd), Sd0, (have fx := t2; Sd), (have fx := t3; Sd), (have fx := t4; Sd), (have fx := t5; Sd), (have fx := t6; Sd)⟩
    by_cases h2 : c < (S.size : Int)
    rotate_left
    · have ho := opn_out (S := S) (c := c) (fun h => h2 h.2)
      (have fx := And.intro t2 (And.intro t3 (And.intro t6 (And.intro h1 (And.intro h2 gm9)))); refine stepR ?_; clear fx)
      exact ⟨rfl, (have fx := And.intro h1 (And.intro h2 ho); Sd), (have fx := ho; Sd), Sd0, (have fx := t2; Sd), (have fx := t3; Sd), (have fx := t4; Sd), (have fx := t5; Sd), (have fx := t6; Sd)⟩
    have ho := opn_int h1 h2
    cases hoc : opn S c
    · rw [hoc] at ho
      (have fx := And.intro t2 (And.intro t3 (And.intro t6 (And.intro h1 (And.intro h2 (And.intro gm9 ho))))); refine stepR ?_; clear fx)
      exact ⟨rfl, (have fx := And.intro h1 (And.intro h2 ho); Sd), Sd0, Sd0, (have fx := t2; Sd), (have fx := t3; Sd), (have fx := t4; Sd), (have fx := t5; Sd), (have fx := t6; Sd)⟩
    rw [hoc] at ho
    by_cases h3 : 0 ≤ to
    rotate_left
    · have ho2 := opn_out (S := S) (c := to) (fun h => h3 h.1)
      (have fx := And.intro t2 (And.intro t3 (And.intro t6 (And.intro h1 (And.intro h2 (And.intro gm9 (And.intro ho h3)))))); refine stepR ?_; clear fx)
      exact ⟨rfl, (have fx := And.intro h1 (And.intro h2 (And.intro ho (And.intro h3 ho2))); Sd), (have fx := ho2; Sd), Sd0, (have fx := t2; Sd), (have fx := t3; Sd), (have fx := t4; Sd), (have fx := t5; Sd), (have fx := t6; Sd)⟩
    by_cases h4 : to < (S.size : Int)
    rotate_left
    · have ho2 := opn_out (S := S) (c := to) (fun h => h4 h.2)
      (have fx := And.intro t2 (And.intro t3 (And.intro t6 (And.intro h1 (And.intro h2 (And.intro gm9 (And.intro ho (And.intro h3 h4))))))); refine stepR ?_; clear fx)
      exact ⟨rfl, (have fx := And.intro h1 (And.intro h2 (And.intro ho (And.intro h3 (And.intro h4 ho2)))); Sd), (have fx := ho2; Sd), Sd0, (have fx := t2; Sd), (have fx := t3; Sd), (have fx := t4; Sd), (have fx := t5; Sd), (have fx := t6; Sd)⟩
    have ho2 := opn_int h3 h4
    cases hoc2 : opn S to
    · rw [hoc2] at ho2
      (have fx := And.intro t2 (And.intro t3 (And.intro t6 (And.intro h1 (And.intro h2 (And.intro gm9 (And.intro ho (And.intro h3 (And.intro h4 ho2)))))))); refine stepR ?_; clear fx)
      exact ⟨rfl, (have fx := And.intro h1 (And.intro h2 (And.intro ho (And.intro h3 (And.intro h4 ho2)))); Sd), Sd0, Sd0, (have fx := t2; Sd), (have fx := t3; Sd), (have fx := t4; Sd), (have fx := t5; Sd), (have fx := t6; Sd)⟩
    · rw [hoc2] at ho2
      (have fx := And.intro t2 (And.intro t3 (And.intro t6 (And.intro h1 (And.intro h2 (And.intro gm9 (And.intro ho (And.intro h3 (And.intro h4 ho2)))))))); refine stepR ?_; clear fx)
      exact ⟨rfl, (have fx := And.intro h1 (And.intro h2 (And.intro ho (And.intro h3 (And.intro h4 ho2)))); Sd), Sd0, Sd0, (have fx := t2; Sd), (have fx := t3; Sd), (have fx := t4; Sd), (have fx := t5; Sd), (have fx := t6; Sd)⟩
  clear t1 t2 t3 t4 t5 t6 t82
  rintro ts τ9 ⟨rfl, t18, t16, t17, t2, t3, t4, t5, t6⟩
  cases ho : (gr W Hh S && opn S c && opn S to)
  · rw [ho] at t18 t16
    (have fx := And.intro t18 t16; refine stepR ?_; clear fx)
    exact fin1 Sd0
  rw [ho] at t18 t16
  simp only [Bool.and_eq_true] at ho
  obtain ⟨⟨hg, hoc⟩, hot⟩ := ho
  have hc0 := opn_lt hoc
  have ht0 := opn_lt hot
  have hS := gr_size hg
  (have fx := And.intro t18 (And.intro t16 (And.intro t6 (And.intro t2 (And.intro t3 gm9)))); refine stepR ?_; clear fx)
  refine ml_call Sd0 (have fx := And.intro t2 t3; Sd) (rBeside_c W c to τ9 hS.1 (by omega) (by omega)) ?_
  rintro _ τ10 ⟨rfl, rfl⟩
  cases hb : beside W c to
  · rw [hb] at t16
    (have fx := t16; refine stepR ?_; clear fx)
    exact fin1 Sd0
  rw [hb] at t16
  cases N2 with
  | none =>
    (have fx := And.intro t16 t17; refine stepR ?_; clear fx)
    exact fin1 Sd0
  | some n =>
    obtain ⟨hn0, hs1', hs2', _, _⟩ := hnt n rfl
    by_cases hsc : step ≤ charge
    · have hw : IntKind.i64.wrap (charge - step) = charge - step := i64wrap (by omega) (by omega)
      by_cases hnc : n ≤ charge - step
      · (have fx := And.intro t16 (And.intro t17 (And.intro t4 (And.intro t5 (And.intro hn0 (And.intro hsc (And.intro hw hnc)))))); refine stepR ?_; clear fx)
        exact fin1 (have fx := And.intro hn0 (And.intro hsc (And.intro hw hnc)); Sd)
      · (have fx := And.intro t16 (And.intro t17 (And.intro t4 (And.intro t5 (And.intro hn0 (And.intro hsc (And.intro hw hnc)))))); refine stepR ?_; clear fx)
        exact fin1 (have fx := And.intro hn0 (And.intro hsc (And.intro hw hnc)); Sd)
    · (have fx := And.intro t16 (And.intro t17 (And.intro t4 (And.intro t5 (And.intro hn0 hsc)))); refine stepR ?_; clear fx)
      exact fin1 (have fx := And.intro hn0 hsc; Sd)
end Go.Proofs.YtgfmphjccnemmaaDoor
