/- route.Total and the document's; RouteTotals. -/
import Derived.Test.YtcjogomiiinkfaaDoorRouteD
namespace Go.Proofs.YtcjogomiiinkfaaDoor
open Go.Mini
open Go.Proofs.YtcjogomiiinkfaaDoor.Code
set_option linter.unusedVariables false
set_option linter.unusedSimpArgs false
set_option linter.ambiguousOpen false
attribute [local irreducible] mx ml mld mstep MCalls Ex.thn Ex.inb
variable {E : World → Prop}

noncomputable def totOK (W Hh : Int) (S : ByteArray) (c a b : Int) : Bool := gr W Hh S && opn S c && opn S a && opn S b
/-- What a task costs, and the error's number. -/
inductive TotR (W Hh : Int) (S : ByteArray) (on : List Int) (c a b : Int) : Int → Int → Prop where
  | bad (h : totOK W Hh S c a b = false) : TotR W Hh S on c a b 0 1
  | much (h : totOK W Hh S c a b = true) (h2 : 64 < on.length) : TotR W Hh S on c a b 0 4
  | none {f : List Int} (h : totOK W Hh S c a b = true) (h2 : Cst W S on 1 f) (h3 : f.getD b.toNat 0 < 0) : TotR W Hh S on c a b 0 4
  | good {f1 f2 f3 : List Int} (h : totOK W Hh S c a b = true) (h0 : ¬ 64 < on.length) (h1 : Cst W S [a] 1 f1) (h2 : Cst W S [b] 2 f2) (h3 : Cst W S on 1 f3) (h4 : ¬ f3.getD b.toNat 0 < 0) : TotR W Hh S on c a b (f1.getD c.toNat 0 + f2.getD a.toNat 0 + f3.getD b.toNat 0) 0
theorem TotR.uniq {W Hh : Int} {S : ByteArray} {on : List Int} {c a b n k n2 k2 : Int} (h : TotR W Hh S on c a b n k) (h2 : TotR W Hh S on c a b n2 k2) : n = n2 ∧ k = k2 := by
  cases h with
  | bad h => cases h2 <;> first | exact ⟨rfl, rfl⟩ | simp_all
  | much h x => cases h2 <;> first | exact ⟨rfl, rfl⟩ | simp_all
  | none h x y =>
    cases h2 with
    | bad h' => simp_all
    | much _ _ => exact ⟨rfl, rfl⟩
    | none _ _ _ => exact ⟨rfl, rfl⟩
    | good h' _ _ _ h3 h4 => obtain rfl := x.uniq h3; exact absurd y h4
  | good h x h1 h2' h3 h4 =>
    cases h2 with
    | bad h' => simp_all
    | much _ x' => exact absurd x' x
    | none _ x' y' => obtain rfl := h3.uniq x'; exact absurd y' h4
    | good _ _ k1 k2 k3 _ => obtain rfl := h1.uniq k1; obtain rfl := h2'.uniq k2; obtain rfl := h3.uniq k3; exact ⟨rfl, rfl⟩
theorem tot_ok {W Hh : Int} {S : ByteArray} {c a b : Int} (h : totOK W Hh S c a b = true) : gr W Hh S = true ∧ opn S c = true ∧ opn S a = true ∧ opn S b = true := by
  simp only [totOK, Bool.and_eq_true] at h
  exact ⟨h.1.1.1, h.1.1.2, h.1.2, h.2⟩
theorem cst_lo {W : Int} {S : ByteArray} {src : List Int} {st : Int} {f : List Int} (hc : Cst W S src st f) (hst : 1 ≤ st) (hS : S.size ≤ 64) {i : Nat} (hi : i < S.size) : -1 ≤ f.getD i 0 ∧ f.getD i 0 ≤ st * 64 := by
  rcases hc.2 i hi with ⟨h, _⟩ | ⟨k, h1, h2, h3⟩
  · rw [h]; constructor <;> omega
  · have hk := h1.short h2
    rw [h3]
    have := Int.mul_nonneg (a := st) (b := (k : Int)) (by omega) (by omega)
    exact ⟨by omega, Int.mul_le_mul_of_nonneg_left (by omega) (by omega)⟩
theorem fin2 {i j : Nat} {ts : Fr} {σ : H} {R : Value → H → Prop} (h : R (.tuple #[ts i, ts j]) σ) : mpost [.t i, .t j] R .ret ts σ := ⟨[ts i, ts j], rfl, h⟩

set_option maxHeartbeats 4000000 in
theorem oTotal_c (W Hh : Int) (S : ByteArray) {σ : H} {ov : Value} {on : List Int} (hr : Rd σ ov (ints on)) (c a b : Int) :
    MCalls E Tryd.prog 32 [mapV W Hh S, ov, .int .i64 c, .int .i64 a, .int .i64 b] σ (fun v τ => ∃ n k ev, v = .tuple #[.int .i64 n, ev] ∧ TotR W Hh S on c a b n k ∧ EN τ ev k ∧ Ext σ τ) := by
  refine mcalls_of fn32 (by simp) ?_
  unfold c32 r32 mapV
  refine stepR0 ?_
  have g1 := H.get_push_self σ (.cells 0 [.int .i64 W, .int .i64 Hh, .string S])
  have e1 := Ext.push σ (.cells 0 [.int .i64 W, .int .i64 Hh, .string S])
  refine ml_call Sd0 Sd0 (oPlan_c W Hh S c a 1 _) ?_
  intro v1 τ h1
  cases hok1 : planOK W Hh S c a 1
  · obtain ⟨nm, ev, rfl, he, e2⟩ := plan_bad h1 hok1
    refine stepR0 ?_
    refine ml_op Sd0 (he.neq Sd0 true) ?_
    refine stepR0 ?_
    refine fin2 ⟨0, 1, ev, Sd0, .bad ?_, .inr ⟨nm, he⟩, e1.trans e2⟩
    unfold planOK at hok1
    unfold totOK
    cases hx : (gr W Hh S && opn S c && opn S a)
    · rfl
    · rw [hx] at hok1; simp at hok1
  obtain ⟨wv, out, f1, rfl, hc1, _, hout⟩ := plan_ok h1 hok1
  have e2 := e1.trans hout.1
  have g2 := hout.1.cells g1
  clear h1 hout
  (have fx := g2; refine stepR ?_; clear fx)
  refine ml_call Sd0 Sd0 (oPlan_c W Hh S a b 2 _) ?_
  intro v2 τ3 h2
  have hok1' := hok1
  simp only [planOK, Bool.and_eq_true] at hok1'
  obtain ⟨⟨⟨⟨hg, hoc⟩, hoa⟩, _⟩, _⟩ := hok1'
  cases hok2 : planOK W Hh S a b 2
  · obtain ⟨nm, ev, rfl, he, e3⟩ := plan_bad h2 hok2
    refine stepR0 ?_
    refine ml_op Sd0 (he.neq Sd0 true) ?_
    refine stepR0 ?_
    refine fin2 ⟨0, 1, ev, Sd0, .bad ?_, .inr ⟨nm, he⟩, e2.trans e3⟩
    unfold planOK at hok2
    unfold totOK
    rw [hg, hoc, hoa]
    rw [hg, hoa] at hok2
    simpa using hok2
  obtain ⟨wv2, out2, f2, rfl, hc2, _, hout2⟩ := plan_ok h2 hok2
  have e3 := e2.trans hout2.1
  have g3 := hout2.1.cells g2
  clear h2 hout2
  have hok2' := hok2
  simp only [planOK, Bool.and_eq_true] at hok2'
  obtain ⟨⟨⟨⟨_, _⟩, hob⟩, _⟩, _⟩ := hok2'
  have htot : totOK W Hh S c a b = true := by unfold totOK; rw [hg, hoc, hoa, hob]; rfl
  have hS64 := (gr_size hg).2.2.2.1
  have hcl := opn_lt hoc
  have hal := opn_lt hoa
  have hbl := opn_lt hob
  have lo1 := cst_lo hc1 (by omega) hS64.2 (i := c.toNat) (by omega)
  have lo2 := cst_lo hc2 (by omega) hS64.2 (i := a.toNat) (by omega)
  (have fx := g3; refine stepR ?_; clear fx)
  refine ml_call Sd0 Sd0 (costs_c W Hh S on 1 ov τ3 (hr.of_ext e3)) ?_
  intro v3 τ4 h3
  cases hok3 : costOK W Hh S on 1
  · obtain ⟨ev, rfl, he, e4⟩ := cost_bad h3 hok3
    have hmuch : 64 < on.length := by
      unfold costOK at hok3
      rw [hg] at hok3
      simpa using hok3
    refine stepR0 ?_
    refine ml_op Sd0 (he.neq Sd0 true) ?_
    refine stepR0 ?_
    refine ml_call Sd0 Sd0 (tag_c _ _ _) ?_
    rintro ev2 τ5 ⟨he2, e5⟩
    refine stepR0 ?_
    exact fin2 ⟨0, 4, ev2, Sd0, .much htot hmuch, .inr ⟨_, he2⟩, e3.trans (e4.trans e5)⟩
  obtain ⟨fv, f3, rfl, hc3, hof⟩ := cost_ok h3 hok3
  have hfew : ¬ 64 < on.length := by
    unfold costOK at hok3
    simp only [Bool.and_eq_true, decide_eq_true_eq] at hok3
    omega
  have e4 := e3.trans hof.1
  have ab := ints_at (l := f3) (i := b.toNat) (by rw [hc3.1]; omega)
  have lo3 := cst_lo hc3 (by omega) hS64.2 (i := b.toNat) (by omega)
  have rf := hof.rd
  clear h3 hof
  refine stepR0 ?_
  refine ml_getSg (q := b) Sd0 rf Sd0 Sd0 hbl.1 ab (fun p => Sd0) fun p => ?_
  by_cases hneg : f3.getD b.toNat 0 < 0
  · (have fx := hneg; refine stepR ?_; clear fx)
    refine ml_call Sd0 Sd0 (tag_c _ _ _) ?_
    rintro ev2 τ5 ⟨he2, e5⟩
    refine stepR0 ?_
    exact fin2 ⟨0, 4, ev2, Sd0, .none htot hc3 hneg, .inr ⟨_, he2⟩, e4.trans e5⟩
  have hgood : TotR W Hh S on c a b (f1.getD c.toNat 0 + f2.getD a.toNat 0 + f3.getD b.toNat 0) 0 := .good htot hfew hc1 hc2 hc3 hneg
  generalize f1.getD c.toNat 0 = x1 at *
  generalize f2.getD a.toNat 0 = x2 at *
  generalize f3.getD b.toNat 0 = x3 at *
  (have fx := hneg; refine stepR ?_; clear fx)
  refine ml_getS (q := b) rf (have fx := hneg; Sd) (have fx := hneg; Sd) hbl.1 ab fun p => ?_
  (have fx := hneg; refine stepR ?_; clear fx)
  exact fin2 ⟨_, 0, .nilIface, (have fx := hneg; Sd), hgood, .inl ⟨rfl, rfl⟩, e4⟩

set_option maxHeartbeats 4000000 in
theorem roTotal_c (W Hh : Int) (S : ByteArray) {σ : H} {ov : Value} {on : List Int} (hr : Rd σ ov (ints on)) (hl : on.length ≤ 1000) (c a b : Int) :
    MCalls E Tryd.prog 33 [mapV W Hh S, ov, .int .i64 c, .int .i64 a, .int .i64 b] σ (fun v τ => ∃ n k, v = .tuple #[.int .i64 n, .int .i64 k] ∧ TotR W Hh S on c a b n k ∧ Ext σ τ) := by
  refine mcalls_of fn33 (by simp) ?_
  unfold c33 r33 mapV
  refine stepR0 ?_
  have g1 := H.get_push_self σ (.cells 0 [.int .i64 W, .int .i64 Hh, .string S])
  have e1 := Ext.push σ (.cells 0 [.int .i64 W, .int .i64 Hh, .string S])
  refine ml_call Sd0 Sd0 (roOpen_c W Hh S c _) ?_
  rintro _ τ ⟨rfl, e2⟩
  have g2 := e2.cells g1
  have e2' := e1.trans e2
  clear e1 e2 g1
  refine ml_mid (fun ts τ' => Ext τ τ' ∧ ts 1 = ov ∧ ts 2 = .int .i64 c ∧ ts 3 = .int .i64 a ∧ ts 4 = .int .i64 b ∧ ts 5 = .pointer (some ⟨σ.size, 0, none⟩) ∧ ts 28 = .bool (!totOK W Hh S c a b)) ?_ ?_
  · unfold totOK
    cases hg : gr W Hh S && opn S c
    · refine stepR0 ?_
      exact ⟨Ext.refl _, Sd0, Sd0, Sd0, Sd0, Sd0, Sd0⟩
    (have fx := g2; refine stepR ?_; clear fx)
    refine ml_call Sd0 Sd0 (roOpen_c W Hh S a _) ?_
    rintro _ τ3 ⟨rfl, e3⟩
    have g3 := e3.cells g2
    rw [Bool.and_eq_true] at hg
    rw [hg.1, Bool.true_and]
    cases ha : opn S a
    · refine stepR0 ?_
      exact ⟨e3, Sd0, Sd0, Sd0, Sd0, Sd0, Sd0⟩
    (have fx := g3; refine stepR ?_; clear fx)
    refine ml_call Sd0 Sd0 (roOpen_c W Hh S b _) ?_
    rintro _ τ4 ⟨rfl, e4⟩
    rw [hg.1, Bool.true_and]
    refine stepR0 ?_
    exact ⟨e3.trans e4, Sd0, Sd0, Sd0, Sd0, Sd0, Sd0⟩
  rintro ts τ3 ⟨e3, t1, t2, t3, t4, t5, t28⟩
  have e3' := e2'.trans e3
  have g3 := e3.cells g2
  cases htot : totOK W Hh S c a b
  · rw [htot] at t28
    (have fx := t28; refine stepR ?_; clear fx)
    exact fin2 ⟨0, 1, Sd0, .bad htot, e3'⟩
  rw [htot] at t28
  obtain ⟨hg, hoc, hoa, hob⟩ := tot_ok htot
  have hS64 := (gr_size hg).2.2.2.1
  have hcl := opn_lt hoc
  have hal := opn_lt hoa
  have hbl := opn_lt hob
  have r3 := hr.of_ext e3'
  (have fx := And.intro t28 (And.intro t5 (And.intro g3 t1)); refine stepR ?_; clear fx)
  refine ml_call Sd0 (have fx := t1; Sd) (rCosts_c W Hh S on 1 ov τ3 r3 hg (by omega) (by omega) hl) ?_
  rintro v τ4 ⟨f3, hc3, hof⟩
  have e4 := e3'.trans hof.1
  have g4 := hof.1.cells g3
  have ab := ints_at (l := f3) (i := b.toNat) (by rw [hc3.1]; omega)
  have lo3 := cst_lo hc3 (by omega) hS64.2 (i := b.toNat) (by omega)
  have r4 := r3.of_ext hof.1
  (have fx := t4; refine stepR ?_; clear fx)
  refine ml_getS (q := b) hof.rd Sd0 (have fx := t4; Sd) hbl.1 ab fun p => ?_
  clear hof
  (have fx := t1; refine stepR ?_; clear fx)
  refine ml_len Sd0 r4 (have fx := t1; Sd) ?_
  rw [ints_len]
  by_cases hmuch : 64 < on.length
  · have hm' : (64 : Int) < (on.length : Int) := by omega
    (have fx := hm'; refine stepR ?_; clear fx)
    exact fin2 ⟨0, 4, (have fx := hm'; Sd), .much htot hmuch, e4⟩
  have hm' : ¬ (64 : Int) < (on.length : Int) := by omega
  by_cases hneg : f3.getD b.toNat 0 < 0
  · (have fx := And.intro hm' hneg; refine stepR ?_; clear fx)
    exact fin2 ⟨0, 4, (have fx := And.intro hm' hneg; Sd), .none htot hc3 hneg, e4⟩
  (have fx := And.intro hm' (And.intro hneg (And.intro t5 (And.intro g4 (And.intro t2 (And.intro t3 t4))))); refine stepR ?_; clear fx)
  refine mld_call (have fx := And.intro hm' hneg; Sd) (have fx := And.intro hm' (And.intro hneg (And.intro t2 t3)); Sd) (roCost_c W Hh S c a 1 τ4 hg hoc (by omega) (by omega)) (fun _ _ h => h.2) ?_
  rintro _ τ5 ⟨⟨f1, hc1, rfl⟩, e5⟩
  (have fx := And.intro hm' (And.intro hneg (And.intro t3 t4)); refine stepR ?_; clear fx)
  refine mld_callW (have fx := And.intro hm' hneg; Sd) (have fx := And.intro hm' (And.intro hneg (And.intro t3 t4)); Sd) (roCost_c W Hh S a b 2 τ5 hg hoa (by omega) (by omega)) ?_
  rintro _ τ6 ⟨⟨f2, hc2, rfl⟩, e6⟩
  have lo1 := cst_lo hc1 (by omega) hS64.2 (i := c.toNat) (by omega)
  have lo2 := cst_lo hc2 (by omega) hS64.2 (i := a.toNat) (by omega)
  have hgood : TotR W Hh S on c a b (f1.getD c.toNat 0 + f2.getD a.toNat 0 + f3.getD b.toNat 0) 0 := .good htot hmuch hc1 hc2 hc3 hneg
  generalize f1.getD c.toNat 0 = x1 at *
  generalize f2.getD a.toNat 0 = x2 at *
  generalize f3.getD b.toNat 0 = x3 at *
  (have fx := And.intro hm' hneg; refine stepR ?_; clear fx)
  exact fin2 ⟨_, 0, (have fx := And.intro hm' hneg; Sd), hgood, e4.trans (e5.trans e6)⟩

set_option maxHeartbeats 4000000 in
theorem routeTotals_c (hE : ∀ w, E w → ErrType w) (W Hh : Int) (S : ByteArray) {σ : H} {ov : Value} {on : List Int} (hr : Rd σ ov (ints on)) (c a b : Int) :
    MCalls E Tryd.prog 11 [mapV W Hh S, ov, .int .i64 c, .int .i64 a, .int .i64 b] σ (fun v τ => v = .bool true) := by
  refine mcalls_of fn11 (by simp) ?_
  unfold c11 r11 mapV
  refine stepR0 ?_
  refine ml_call Sd0 Sd0 (oAwake_c _) ?_
  rintro _ τ ⟨rfl, e1⟩
  have g1 := e1.cells (H.get_push_self σ _)
  have e1' := (Ext.push _ _).trans e1
  have r1 := hr.of_ext e1'
  by_cases hS : 200 < S.size
  · have hS' : (200 : Int) < (S.size : Int) := by omega
    (have fx := And.intro g1 hS'; refine stepR ?_; clear fx)
    refine ml_call Sd0 Sd0 (oAwake_c _) ?_
    rintro _ τ2 ⟨rfl, e2⟩
    refine stepR0 ?_
    exact fin1 Sd0
  have hS' : ¬ (200 : Int) < (S.size : Int) := by omega
  (have fx := And.intro g1 hS'; refine stepR ?_; clear fx)
  refine ml_len Sd0 r1 Sd0 ?_
  rw [ints_len]
  by_cases hl : 100 < on.length
  · have hl' : (100 : Int) < (on.length : Int) := by omega
    (have fx := hl'; refine stepR ?_; clear fx)
    refine ml_call Sd0 Sd0 (oAwake_c _) ?_
    rintro _ τ2 ⟨rfl, e2⟩
    refine stepR0 ?_
    exact fin1 Sd0
  have hl' : ¬ (100 : Int) < (on.length : Int) := by omega
  (have fx := And.intro g1 hl'; refine stepR ?_; clear fx)
  refine ml_call Sd0 Sd0 (gOf_c W Hh S τ) ?_
  rintro _ τ2 ⟨rfl, e2⟩
  have r2 := r1.of_ext e2
  have g2 := e2.cells g1
  refine stepR0 ?_
  refine ml_call Sd0 Sd0 (oTotal_c W Hh S r2 c a b) ?_
  rintro _ τ3 ⟨n, k, ev, rfl, ht, hen, e3⟩
  have r3 := r2.of_ext e3
  have g3 := e3.cells g2
  (have fx := g3; refine stepR ?_; clear fx)
  refine ml_call Sd0 Sd0 (roTotal_c W Hh S r3 (by omega) c a b) ?_
  rintro _ τ4 ⟨n2, k2, rfl, ht2, e4⟩
  obtain ⟨rfl, rfl⟩ := ht.uniq ht2
  have hnn : (n == n) = true := by simp
  have hkk : (k == k) = true := by simp
  (have fx := hnn; refine stepR ?_; clear fx)
  refine ml_call (have fx := hnn; Sd) (have fx := hnn; Sd) ((hen.of_ext e4).num hE) ?_
  rintro _ τ5 ⟨rfl, e5⟩
  (have fx := And.intro hnn hkk; refine stepR ?_; clear fx)
  exact fin1 (have fx := And.intro hnn hkk; Sd)
end Go.Proofs.YtcjogomiiinkfaaDoor
