/- RouteFree. -/
import Derived.Test.YtfldnpaolmalhaaDoorRouteG
namespace Go.Proofs.YtfldnpaolmalhaaDoor
open Go.Mini
open Go.Proofs.YtfldnpaolmalhaaDoor.Code
set_option linter.unusedVariables false
set_option linter.unusedSimpArgs false
set_option linter.ambiguousOpen false
attribute [local irreducible] mx ml mld mstep MCalls Ex.thn Ex.inb
variable {E : World → Prop}

theorem freeT_nil (x : Int) (hx : 0 ≤ x) : freeT [] x = true := by
  unfold freeT; rw [List.length_nil, decide_eq_true (by omega)]; rfl
theorem freeT_all {t : List Bool} (hl : t.length = 64) (h : ∀ j, j < 64 → t.getD j false = true) {x : Int} (h0 : 0 ≤ x) (h1 : x < 64) : freeT t x = false := by
  unfold freeT; rw [hl, decide_eq_false (by omega), h _ (by omega)]; rfl
theorem set_true {t : List Bool} {i : Nat} (hl : t.length = 64) (hi : i < 64) (h : ∀ j, j < i → t.getD j false = true) : (t.set i true).length = 64 ∧ ∀ j, j < i + 1 → (t.set i true).getD j false = true := by
  refine ⟨by rw [List.length_set, hl], fun j hj => ?_⟩
  rw [List.getD_eq_getElem?_getD, List.getElem?_set]
  split
  · rw [if_pos (by omega)]; rfl
  · rw [← List.getD_eq_getElem?_getD]; exact h j (by omega)

set_option maxHeartbeats 8000000 in
theorem routeFree_c (hE : ∀ w, E w → ErrType w) (W Hh : Int) (S : ByteArray) {σ : H} (a b : Nat) (ha : a < 256) (hb : b < 256) :
    MCalls E Tryd.prog 13 [mapV W Hh S, .int .u8 a, .int .u8 b] σ (fun v τ => v = .bool true) := by
  refine mcalls_of fn13 (by simp) ?_
  unfold c13 r13 mapV
  refine stepR0 ?_
  refine ml_call Sd0 Sd0 (oAwake_c _) ?_
  rintro _ τ ⟨rfl, e1⟩
  have g1 := e1.cells (H.get_push_self σ _)
  (have fx := g1; refine stepR ?_; clear fx)
  refine ml_call Sd0 Sd0 (rRight_c W Hh S τ) ?_
  rintro _ τ2 ⟨rfl, e2⟩
  cases hg : gr W Hh S
  · refine stepR0 ?_
    refine ml_call Sd0 Sd0 (oAwake_c _) ?_
    rintro _ τ3 ⟨rfl, e3⟩
    refine stepR0 ?_
    exact fin1 Sd0
  have g2 := e2.cells g1
  have hgs := gr_size hg
  obtain ⟨hS1, hS64⟩ := hgs.2.2.2.1
  have hSne : (S.size : Int) ≠ 0 := by omega
  have hmod : ∀ c : Nat, ∃ k : Nat, k < S.size ∧ ((c : Int).tmod (S.size : Int)) = (k : Int) := fun c => ⟨c % S.size, Nat.mod_lt _ (by omega), by rw [Int.tmod_eq_emod_of_nonneg (by omega)]; rfl⟩
  obtain ⟨i, hi, him⟩ := hmod a
  obtain ⟨k, hk, hkm⟩ := hmod b
  (have fx := g2; refine stepR ?_; clear fx)
  refine ml_call Sd0 Sd0 (gOf_c W Hh S τ2) ?_
  rintro _ τ3 ⟨rfl, e3⟩
  have g3 := e3.cells g2
  refine stepR0 ?_
  refine ml_init (vs := mapC W Hh S) Sd0 Sd0 Sd0 rfl rfl rfl fun τ4 e4 g7 => ?_
  have g4 := e4.cells g3
  have g7' : τ4.get τ3.size = .cells 0 [.int .i64 W, .int .i64 Hh, .string S] := g7
  generalize τ3.size = xid at g7' ⊢
  clear g7 g3 g2 g1 e1 e2 e3 e4
  (have fx := And.intro g4 (And.intro g7' (And.intro him hkm)); refine stepR ?_; clear fx)
  refine ml_call Sd0 (have fx := And.intro him hkm; Sd) (oPlan_c W Hh S i k 1 τ4) ?_
  intro v1 τ5 hp1
  cases hok : planOK W Hh S i k 1
  · obtain ⟨nm, ev, rfl, he, e5⟩ := plan_bad hp1 hok
    refine stepR0 ?_
    refine ml_call Sd0 Sd0 (tNum_c hE he.chain) ?_
    rintro _ τ6 ⟨rfl, e6⟩
    refine stepR0 ?_
    exact fin1 Sd0
  obtain ⟨wv, out, f, rfl, hcf, hway, hout⟩ := plan_ok hp1 hok
  rw [planOK_one hg, Bool.and_eq_true] at hok
  obtain ⟨oi, ok⟩ := hok
  have g5 := hout.1.cells g4
  have g75 := hout.1.cells g7'
  have ro := hout.rd
  clear hp1 hout g4 g7'
  refine stepR0 ?_
  refine ml_call Sd0 Sd0 (tNumN_c τ5) ?_
  rintro _ τ6 ⟨rfl, rfl⟩
  (have fx := And.intro g5 (And.intro g75 (And.intro him hkm)); refine stepR ?_; clear fx)
  refine mld_call Sd0 (have fx := hkm; Sd) (rCosts_c W Hh S [(k : Int)] 1 _ _ (one_rd (H.get_push_self _ _)) hg (by omega) (by omega) (by simp)) (fun _ _ ⟨_, _, h⟩ => h.1) ?_
  rintro fv τ7 ⟨f', hcf', hof⟩
  obtain rfl := hcf.uniq hcf'
  have e7 := (Ext.push τ6 _).trans hof.1
  have g7 := e7.cells g5
  have g77 := e7.cells g75
  have ro := ro.of_ext e7
  (have fx := him; refine stepR ?_; clear fx)
  refine mld_callW Sd0 (have fx := him; Sd) (oNext_c W Hh S (t := []) hof.rd .nil (i : Int)) ?_
  rintro v2 τ8 ⟨l, hd, hn, e8⟩
  have g8 := e8.cells g7
  have g78 := e8.cells g77
  have ro := ro.of_ext e8
  have hlo : ∀ x ∈ l, 0 ≤ x ∧ x < 64 := fun x hx => by have := opn_lt (hd.mem hx).1; omega
  -- what the first Next answers
  obtain ⟨n, okb, rfl, hres⟩ : ∃ n okb, v2 = .tuple #[.int .i64 n, .bool okb] ∧ okb = decide (0 < out.length) ∧ (okb = true → n = out.getD 0 0) := by
    have hlout : l = [] ∧ out = [] ∨ ∃ d t t', l = d :: t ∧ out = d :: t' := by
      cases hway with
      | stop h => exact .inl ⟨hd.uniq h, rfl⟩
      | step h _ => exact .inr ⟨_, _, _, hd.uniq h, rfl⟩
    rcases hlout with ⟨rfl, rfl⟩ | ⟨d, t, t', rfl, rfl⟩
    · rcases hn with ⟨rfl, _⟩ | ⟨j, hj, _⟩
      · exact ⟨0, false, rfl, rfl, fun h => by cases h⟩
      · exact absurd hj (Nat.not_lt_zero _)
    · have h0 := hlo d (List.mem_cons_self ..)
      rcases hn with ⟨rfl, hall⟩ | ⟨j, hj, rfl, _, hall⟩
      · have := hall d (List.mem_cons_self ..)
        rw [freeT_nil d h0.1] at this; cases this
      · cases j with
        | zero => exact ⟨d, true, rfl, by simp, fun _ => rfl⟩
        | succ j =>
          have := hall d (by rw [List.take_succ_cons]; exact List.mem_cons_self ..)
          rw [freeT_nil d h0.1] at this; cases this
  clear g7 g77 g5 g75 e7 e8
  refine stepR0 ?_
  refine ml_op Sd0 (o_mks1 (n := 64) Sd0 Sd0 (by omega) (by omega)) ?_
  refine stepR0 ?_
  have gA := H.get_push_self τ8 (.cells 1 (List.replicate 64 (.bool false)))
  have eA := Ext.push τ8 (.cells 1 (List.replicate 64 (.bool false)))
  have gA' : (τ8.push (.cells 1 (List.replicate 64 (.bool false)))).get τ8.size = .cells 1 (bools (List.replicate 64 false)) := by
    rw [gA]; unfold bools; rw [List.map_replicate]
  generalize τ8.push (.cells 1 (List.replicate 64 (.bool false))) = τ9 at gA' eA ⊢
  clear gA
  refine mx_loop (fun m ts τ => ∃ j t, m = 64 - j ∧ j ≤ 64 ∧ t.length = 64 ∧ (∀ q, q < j → t.getD q false = true) ∧ Ext τ8 τ ∧ τ.get τ8.size = .cells 1 (bools t) ∧ ts 3 = .pointer (some ⟨σ.size, 0, none⟩) ∧ ts 7 = .pointer (some ⟨xid, 0, none⟩) ∧ ts 8 = .int .i64 (i : Int) ∧ ts 9 = .int .i64 (k : Int) ∧ ts 10 = wv ∧ ts 13 = .int .i64 n ∧ ts 14 = .bool okb ∧ ts 15 = .slice (some ⟨τ8.size, 0, none⟩) 64 64 ∧ ts 16 = .int .i64 ((j : Nat) : Int)) 64 ?_ ?_
  · exact ⟨0, List.replicate 64 false, rfl, by omega, by simp, fun q h => absurd h (Nat.not_lt_zero _), eA, gA', Sd0, Sd0, (have fx := him; Sd), (have fx := hkm; Sd), Sd0, Sd0, Sd0, Sd0, Sd0⟩
  rintro m ts τ ⟨j, t, rfl, hj, htl, htt, e, gt, t3, t7, t8, t9, t10, t13, t14, t15, t16⟩
  rcases Nat.lt_or_ge j 64 with hjl | hjg
  · have hjl' : ((j : Nat) : Int) < 64 := by omega
    (have fx := And.intro t16 (And.intro hjl' t15); refine stepR ?_; clear fx)
    obtain ⟨hs1, hs2⟩ := set_true htl hjl htt
    refine ml_setB (off := j) (c := true) Sd0 Sd0 Sd0 gt (by rw [htl]; exact hjl) fun τ' s3 => ?_
    (have fx := t16; refine stepR ?_; clear fx)
    exact ⟨_, by omega, j + 1, t.set j true, rfl, hjl, hs1, hs2, s3.ext e (Nat.le_refl _), s3.self, (have fx := t3; Sd), (have fx := t7; Sd), (have fx := t8; Sd), (have fx := t9; Sd), (have fx := t10; Sd), (have fx := t13; Sd), (have fx := t14; Sd), (have fx := t15; Sd), Sd0⟩
  obtain rfl : j = 64 := by omega
  have hjl' : ¬ ((64 : Nat) : Int) < 64 := by omega
  have g9 := e.cells g8
  have g79 := e.cells g78
  have ro := ro.of_ext e
  (have fx := And.intro t16 (And.intro t3 (And.intro t7 (And.intro t9 (And.intro t8 (And.intro t15 (And.intro g9 g79)))))); refine stepR ?_; clear fx)
  have rt : Rd τ (.slice (some ⟨τ8.size, 0, none⟩) 64 64) (bools t) := (Own.full (sz := 1) (n := 64) (cs := bools t) gt (by rw [bools_len, htl])).rd
  refine mld_call Sd0 (have fx := t9; Sd) (rCosts_c W Hh S [(k : Int)] 1 _ _ (one_rd (H.get_push_self _ _)) hg (by omega) (by omega) (by simp)) (fun _ _ ⟨_, _, h⟩ => h.1) ?_
  rintro fv2 τ10 ⟨f2, hcf2, hof2⟩
  obtain rfl := hcf.uniq hcf2
  have e10 := (Ext.push τ _).trans hof2.1
  (have fx := And.intro t8 t15; refine stepR ?_; clear fx)
  refine mld_callW Sd0 (have fx := And.intro t8 t15; Sd) (oNext_c W Hh S hof2.rd (rt.of_ext e10) (i : Int)) ?_
  rintro v3 τ11 ⟨l2, hd2, hn2, e11⟩
  obtain rfl := hd.uniq hd2
  have ro := ro.of_ext (e10.trans e11)
  obtain ⟨n2, rfl⟩ : ∃ n2, v3 = .tuple #[.int .i64 n2, .bool false] := by
    rcases hn2 with ⟨rfl, _⟩ | ⟨j, hj, _, hp, _⟩
    · exact ⟨0, rfl⟩
    · have hm : l.getD j 0 ∈ l := by rw [List.getD_eq_getElem?_getD, List.getElem?_eq_getElem hj]; exact List.getElem_mem hj
      have := hlo _ hm
      rw [freeT_all htl htt this.1 this.2] at hp; cases hp
  obtain ⟨rfl, hn0⟩ := hres
  by_cases hpos : 0 < out.length
  · have hpos' : (0 : Int) < (out.length : Int) := by omega
    have hdt : decide (0 < out.length) = true := decide_eq_true hpos
    rw [hdt] at t14 hn0
    obtain rfl := hn0 rfl
    have a0 := ints_at hpos
    generalize out.getD 0 0 = w0 at a0 t13
    have hww : (w0 == w0) = true := by simp
    (have fx := And.intro t14 t10; refine stepR ?_; clear fx)
    refine ml_len Sd0 ro (have fx := t10; Sd) ?_
    rw [ints_len]
    (have fx := And.intro t14 (And.intro hpos' (And.intro t13 t10)); refine stepR ?_; clear fx)
    refine ml_getSg (q := 0) (have fx := hpos'; Sd) ro (have fx := t10; Sd) Sd0 (by omega) a0 (fun p => (have fx := hpos'; Sd)) fun p => ?_
    (have fx := And.intro hpos' hww; refine stepR ?_; clear fx)
    exact fin1 (have fx := And.intro hpos' hww; Sd)
  · have hpos' : ¬ (0 : Int) < (out.length : Int) := by omega
    have hdt : decide (0 < out.length) = false := decide_eq_false hpos
    rw [hdt] at t14
    (have fx := And.intro t14 t10; refine stepR ?_; clear fx)
    refine ml_len Sd0 ro (have fx := t10; Sd) ?_
    rw [ints_len]
    (have fx := And.intro t14 (And.intro hpos' (And.intro t13 t10)); refine stepR ?_; clear fx)
    exact fin1 (have fx := hpos'; Sd)
end Go.Proofs.YtfldnpaolmalhaaDoor
