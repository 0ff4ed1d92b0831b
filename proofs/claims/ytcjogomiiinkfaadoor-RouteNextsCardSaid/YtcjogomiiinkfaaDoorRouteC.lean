/- RoutePlans. -/
import Derived.Test.YtcjogomiiinkfaaDoorRouteB
namespace Go.Proofs.YtcjogomiiinkfaaDoor
open Go.Mini
open Go.Proofs.YtcjogomiiinkfaaDoor.Code
set_option linter.unusedVariables false
set_option linter.unusedSimpArgs false
set_option linter.ambiguousOpen false
attribute [local irreducible] mx ml mld mstep MCalls Ex.thn Ex.inb
variable {E : World → Prop}

theorem path_at {W : Int} {S : ByteArray} {x y : Int} {out : List Int} (h : PathTo W S x out y) : ∀ {i : Nat}, i < out.length → out.getD i 0 ∈ nearL W S ((x :: out).getD i 0) := by
  induction h with
  | nil x => intro i hi; exact absurd hi (Nat.not_lt_zero _)
  | cons hn _ ih =>
    intro i hi
    cases i with
    | zero => exact hn
    | succ i => exact ih (Nat.lt_of_succ_lt_succ hi)
theorem path_end {W : Int} {S : ByteArray} {x y : Int} {out : List Int} (h : PathTo W S x out y) : (x :: out).getD out.length 0 = y := by
  induction h with
  | nil x => rfl
  | cons _ _ ih => exact ih
theorem path_opn {W : Int} {S : ByteArray} {x y : Int} {out : List Int} (h : PathTo W S x out y) (hx : opn S x = true) : ∀ {i : Nat}, i ≤ out.length → opn S ((x :: out).getD i 0) = true := by
  intro i hi
  cases i with
  | zero => exact hx
  | succ i => exact near_opn (path_at h (i := i) (by omega))
theorem planOK_swap (W Hh : Int) (S : ByteArray) (a b step : Int) : planOK W Hh S b a step = planOK W Hh S a b step := by
  unfold planOK
  cases gr W Hh S <;> cases opn S a <;> cases opn S b <;> rfl

set_option maxHeartbeats 4000000 in
theorem routePlans_c (hE : ∀ w, E w → ErrType w) (W Hh : Int) (S : ByteArray) {σ : H} (a b step : Int) :
    MCalls E Tryd.prog 9 [mapV W Hh S, .int .i64 a, .int .i64 b, .int .i64 step] σ (fun v τ => v = .bool true) := by
  refine mcalls_of fn9 (by simp) ?_
  unfold c9 r9 mapV
  refine stepR0 ?_
  refine ml_call Sd0 Sd0 (oAwake_c _) ?_
  rintro _ τ ⟨rfl, e1⟩
  have g1 := e1.cells (H.get_push_self σ _)
  by_cases hS : 200 < S.size
  · have hS' : (200 : Int) < (S.size : Int) := by omega
    (have fx := And.intro g1 hS'; refine stepR ?_; clear fx)
    refine ml_call Sd0 Sd0 (oAwake_c _) ?_
    rintro _ τ2 ⟨rfl, e2⟩
    refine stepR0 ?_
    exact fin1 Sd0
  have hS' : ¬ (200 : Int) < (S.size : Int) := by omega
  (have fx := And.intro g1 hS'; refine stepR ?_; clear fx)
  refine ml_call Sd0 Sd0 (gOf_c W Hh S τ) ?_
  rintro _ τ2 ⟨rfl, e2⟩
  have g2 := e2.cells g1
  refine stepR0 ?_
  refine ml_call Sd0 Sd0 (oPlan_c W Hh S a b step τ2) ?_
  intro v1 τ3 h1
  have swap := planOK_swap W Hh S a b step
  cases hok : planOK W Hh S a b step
  · obtain ⟨nm1, ev1, rfl, he1, e3⟩ := plan_bad h1 hok
    have g3 := e3.cells g2
    (have fx := g3; refine stepR ?_; clear fx)
    refine ml_call Sd0 Sd0 (gOf_c W Hh S τ3) ?_
    rintro _ τ4 ⟨rfl, e4⟩
    have g4 := e4.cells g3
    have he1 := he1.of_ext e4
    refine stepR0 ?_
    refine ml_call Sd0 Sd0 (oPlan_c W Hh S b a step τ4) ?_
    intro v2 τ5 h2
    obtain ⟨nm2, ev2, rfl, he2, e5⟩ := plan_bad h2 (swap.trans hok)
    have g5 := e5.cells g4
    have he1 := he1.of_ext e5
    (have fx := g5; refine stepR ?_; clear fx)
    refine ml_call Sd0 Sd0 (roOpen_c W Hh S a τ5) ?_
    rintro _ τ6 ⟨rfl, e6⟩
    have g6 := e6.cells g5
    refine ml_mid (fun ts τ' => Ext τ6 τ' ∧ ts 9 = .slice none 0 0 ∧ ts 10 = .int .i64 0 ∧ ts 11 = ev1 ∧ ts 14 = ev2 ∧ ts 63 = .bool true) ?_ ?_
    · cases hga : gr W Hh S && opn S a
      · refine stepR0 ?_
        exact ⟨Ext.refl _, Sd0, Sd0, Sd0, Sd0, Sd0⟩
      (have fx := g6; refine stepR ?_; clear fx)
      refine ml_call Sd0 Sd0 (roOpen_c W Hh S b τ6) ?_
      rintro _ τ7 ⟨rfl, e7⟩
      cases hgb : gr W Hh S && opn S b
      · refine stepR0 ?_
        exact ⟨e7, Sd0, Sd0, Sd0, Sd0, Sd0⟩
      by_cases h3 : step < 1
      · (have fx := h3; refine stepR ?_; clear fx)
        exact ⟨e7, (have fx := h3; Sd), (have fx := h3; Sd), (have fx := h3; Sd), (have fx := h3; Sd), (have fx := h3; Sd)⟩
      by_cases h4 : 100 < step
      · (have fx := And.intro h3 h4; refine stepR ?_; clear fx)
        exact ⟨e7, (have fx := And.intro h3 h4; Sd), (have fx := And.intro h3 h4; Sd), (have fx := And.intro h3 h4; Sd), (have fx := And.intro h3 h4; Sd), (have fx := And.intro h3 h4; Sd)⟩
      exfalso
      rw [Bool.and_eq_true] at hga hgb
      unfold planOK at hok
      rw [hga.1, hga.2, hgb.2, decide_eq_true (show 1 ≤ step by omega), decide_eq_true (show step ≤ 100 by omega)] at hok
      cases hok
    rintro ts τ' ⟨e7, t9, t10, t11, t14, t63⟩
    (have fx := And.intro t63 t11; refine stepR ?_; clear fx)
    refine ml_call Sd0 (have fx := t11; Sd) (tNum_c hE (he1.of_ext (e6.trans e7)).chain) ?_
    rintro _ τ8 ⟨rfl, e8⟩
    (have fx := t14; refine stepR ?_; clear fx)
    refine ml_call Sd0 (have fx := t14; Sd) (tNum_c hE (he2.of_ext ((e6.trans e7).trans e8)).chain) ?_
    rintro _ τ9 ⟨rfl, e9⟩
    (have fx := And.intro t9 t10; refine stepR ?_; clear fx)
    exact fin1 Sd0
  obtain ⟨wv, out, f, rfl, hcf, hway, hout⟩ := plan_ok h1 hok
  have g3 := hout.1.cells g2
  (have fx := g3; refine stepR ?_; clear fx)
  refine ml_call Sd0 Sd0 (gOf_c W Hh S τ3) ?_
  rintro _ τ4 ⟨rfl, e4⟩
  have g4 := e4.cells g3
  refine stepR0 ?_
  refine ml_call Sd0 Sd0 (oPlan_c W Hh S b a step τ4) ?_
  intro v2 τ5 h2
  obtain ⟨wv2, out2, f2, rfl, hcf2, _, hout2⟩ := plan_ok h2 (swap.trans hok)
  have g5 := hout2.1.cells g4
  have ro5 := (hout.rd.of_ext e4).of_ext hout2.1
  have hok' := hok
  unfold planOK at hok'
  simp only [Bool.and_eq_true, decide_eq_true_eq] at hok'
  obtain ⟨⟨⟨⟨hg, ha⟩, hb⟩, hs1⟩, hs2⟩ := hok'
  have h3 : ¬ step < 1 := by omega
  have h4 : ¬ 100 < step := by omega
  obtain ⟨d, hd1, hd2, hd3, hd4⟩ := fs_dist hg hb hcf ha
  have hgs := gr_size hg
  obtain ⟨hlen, y, hy, hp⟩ := way_ok hg hcf hs1 (by omega) hd1 hd2 hway
  simp only [List.mem_singleton] at hy
  subst hy
  have hfa : f.getD a.toNat 0 = (out.length : Int) * step := by rw [hd3, hlen, Int.mul_comm]
  have hfb : f2.getD y.toNat 0 = (out.length : Int) * step := by rw [← fs_rev hg ha hb hcf hcf2, hfa]
  have hm0 : 0 ≤ (out.length : Int) * step := Int.mul_nonneg (by omega) (by omega)
  have hm1 : (out.length : Int) * step ≤ 64 * 100 := Int.mul_le_mul (by omega) (by omega) (by omega) (by omega)
  have hbe : ((out.length : Int) * step == (out.length : Int) * step) = true := by simp
  have hyy : (y == y) = true := by simp
  have hl64 : out.length < 64 := by omega
  rw [hfa, hfb]
  clear hlen hd1 hd2 hd3 hd4 hway h1 h2 hout hout2 e4
  (have fx := g5; refine stepR ?_; clear fx)
  refine ml_call Sd0 Sd0 (roOpen_c W Hh S a τ5) ?_
  rintro _ τ6 ⟨rfl, e6⟩
  have g6 := e6.cells g5
  rw [hg, ha]
  (have fx := g6; refine stepR ?_; clear fx)
  refine ml_call Sd0 Sd0 (roOpen_c W Hh S y τ6) ?_
  rintro _ τ7 ⟨rfl, e7⟩
  have g7 := e7.cells g6
  have ro := ro5.of_ext (e6.trans e7)
  rw [hg, hb]
  (have fx := And.intro h3 h4; refine stepR ?_; clear fx)
  refine mx_loop (fun n ts τ => ∃ i, n = out.length - i ∧ i ≤ out.length ∧ τ = τ7 ∧ ts 1 = .int .i64 a ∧ ts 2 = .int .i64 y ∧ ts 3 = .int .i64 step ∧ ts 4 = .pointer (some ⟨σ.size, 0, none⟩) ∧ ts 9 = wv ∧ ts 10 = .int .i64 ((out.length : Int) * step) ∧ ts 11 = .nilIface ∧ ts 13 = .int .i64 ((out.length : Int) * step) ∧ ts 14 = .nilIface ∧ ts 15 = .int .i64 ((a :: out).getD i 0) ∧ ts 16 = .int .i64 ((i : Nat) : Int)) out.length ?_ ?_
  · exact ⟨0, rfl, by omega, rfl, (have fx := And.intro h3 h4; Sd), (have fx := And.intro h3 h4; Sd), (have fx := And.intro h3 h4; Sd), (have fx := And.intro h3 h4; Sd), (have fx := And.intro h3 h4; Sd), (have fx := And.intro h3 h4; Sd), (have fx := And.intro h3 h4; Sd), (have fx := And.intro h3 h4; Sd), (have fx := And.intro h3 h4; Sd), (have fx := And.intro h3 h4; Sd), (have fx := And.intro h3 h4; Sd)⟩
  rintro n ts τ ⟨i, rfl, hi, rfl, t1, t2, t3, t4, t9, t10, t11, t13, t14, t15, t16⟩
  (have fx := And.intro t9 t16; refine stepR ?_; clear fx)
  refine ml_len Sd0 ro (have fx := t9; Sd) ?_
  rw [ints_len]
  rcases Nat.lt_or_ge i out.length with hil | hig
  · have hil' : ((i : Nat) : Int) < (out.length : Int) := by omega
    have hxo := path_opn hp ha (i := i) hi
    have hn := path_at hp hil
    have hyo := near_opn hn
    have hbs := ((near_iff hgs.1 hxo).1 hn).2
    have ai := ints_at (l := out) hil
    have hsucc : (a :: out).getD (i + 1) 0 = out.getD i 0 := List.getD_cons_succ
    generalize (a :: out).getD i 0 = x at t15 hxo hn hbs
    generalize out.getD i 0 = z at hn hyo hbs ai hsucc
    have hxl := opn_lt hxo
    have hzl := opn_lt hyo
    obtain ⟨zn, rfl⟩ := Int.eq_ofNat_of_zero_le hzl.1
    have hzn : zn < S.size := by omega
    have oz := sgn_opn hzn
    have hu : (((S.data.toList.getD zn 0).toNat : Int) == (35 : Int)) = (S.data.toList.getD zn 0 == 35) := u8eq _ 35 (by omega)
    have hw : (S.data.toList.getD zn 0 == 35) = false := by
      rw [hyo] at oz
      cases h : S.data.toList.getD zn 0 == 35
      · rfl
      · rw [h] at oz; cases oz
    rw [hw] at hu
    (have fx := And.intro hil' (And.intro t4 (And.intro g7 (And.intro t15 (And.intro t9 t16)))); refine stepR ?_; clear fx)
    refine mld_getS (e := .int .i64 (zn : Int)) Sd0 ro (have fx := t9; Sd) (have fx := t16; Sd) (by omega) (by rw [Int.toNat_natCast]; exact ai) (fun p => Sd0) fun p => ?_
    (have fx := t15; refine stepR ?_; clear fx)
    refine mld_callW Sd0 (have fx := t15; Sd) (rBeside_c W x (zn : Int) τ hgs.1 (by omega) (by omega)) ?_
    rintro _ τ8 ⟨rfl, rfl⟩
    rw [hbs]
    (have fx := And.intro t4 (And.intro g7 (And.intro t9 t16)); refine stepR ?_; clear fx)
    refine mld_getS (e := .int .i64 (zn : Int)) Sd0 ro (have fx := t9; Sd) (have fx := t16; Sd) (by omega) (by rw [Int.toNat_natCast]; exact ai) (fun p => Sd0) fun p => ?_
    (have fx := And.intro hu (And.intro t9 t16); refine stepR ?_; clear fx)
    refine ml_getS (e := .int .i64 (zn : Int)) ro (have fx := t9; Sd) (have fx := t16; Sd) (by omega) (by rw [Int.toNat_natCast]; exact ai) fun p => ?_
    (have fx := t16; refine stepR ?_; clear fx)
    exact ⟨_, by omega, i + 1, rfl, hil, rfl, (have fx := t1; Sd), (have fx := t2; Sd), (have fx := t3; Sd), (have fx := t4; Sd), (have fx := t9; Sd), (have fx := t10; Sd), (have fx := t11; Sd), (have fx := t13; Sd), (have fx := t14; Sd), (have fx := hsucc; Sd), Sd0⟩
  obtain rfl : i = out.length := by omega
  have hil' : ¬ (out.length : Int) < (out.length : Int) := by omega
  rw [path_end hp] at t15
  (have fx := And.intro hil' t11; refine stepR ?_; clear fx)
  refine ml_call Sd0 (have fx := t11; Sd) (tNumN_c _) ?_
  rintro _ τ8 ⟨rfl, rfl⟩
  (have fx := t14; refine stepR ?_; clear fx)
  refine ml_call Sd0 (have fx := t14; Sd) (tNumN_c _) ?_
  rintro _ τ8 ⟨rfl, rfl⟩
  (have fx := And.intro t15 (And.intro t2 (And.intro hyy (And.intro t9 t10))); refine stepR ?_; clear fx)
  refine ml_len (have fx := hyy; Sd) ro (have fx := t9; Sd) ?_
  rw [ints_len]
  (have fx := And.intro hyy (And.intro hbe (And.intro t10 (And.intro t3 (And.intro t4 (And.intro g7 (And.intro t1 t2)))))); refine stepR ?_; clear fx)
  refine ml_call (have fx := And.intro hyy hbe; Sd) (have fx := And.intro t1 (And.intro t2 t3); Sd) (roCost_c W Hh S a y step _ hg ha hs1 hs2) ?_
  rintro _ τ9 ⟨⟨f3, hc3, rfl⟩, e9⟩
  obtain rfl := hcf.uniq hc3
  rw [hfa]
  (have fx := And.intro hyy (And.intro hbe (And.intro t13 t10)); refine stepR ?_; clear fx)
  exact fin1 (have fx := And.intro hyy hbe; Sd)
end Go.Proofs.YtcjogomiiinkfaaDoor
