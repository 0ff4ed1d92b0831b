/- route.Plan and route.Total, and the document's. -/
import Derived.Test.YtcjogomiiinkfaaDoorFieldG
namespace Go.Proofs.YtcjogomiiinkfaaDoor
open Go.Mini
open Go.Proofs.YtcjogomiiinkfaaDoor.Code
set_option linter.unusedVariables false
set_option linter.unusedSimpArgs false
set_option linter.ambiguousOpen false
attribute [local irreducible] mx ml mld mstep MCalls Ex.thn Ex.inb
variable {E : World → Prop}

noncomputable def planOK (W Hh : Int) (S : ByteArray) (a b step : Int) : Bool := gr W Hh S && opn S a && opn S b && decide (1 ≤ step) && decide (step ≤ 100)
def planR (W Hh : Int) (S : ByteArray) (a b step : Int) (σ : H) (v : Value) (τ : H) : Prop :=
  if planOK W Hh S a b step = true then ∃ wv out f, v = .tuple #[wv, .int .i64 (f.getD a.toNat 0), .nilIface] ∧ Cst W S [b] step f ∧ WayR W Hh S f 64 a out ∧ Out σ τ 1 wv (ints out)
  else ∃ nm e, v = .tuple #[.slice none 0 0, .int .i64 0, e] ∧ TagE τ e nm 1 ∧ Ext σ τ
theorem plan_ok {W Hh : Int} {S : ByteArray} {a b step : Int} {σ τ : H} {v : Value} (h : planR W Hh S a b step σ v τ) (hok : planOK W Hh S a b step = true) :
    ∃ wv out f, v = .tuple #[wv, .int .i64 (f.getD a.toNat 0), .nilIface] ∧ Cst W S [b] step f ∧ WayR W Hh S f 64 a out ∧ Out σ τ 1 wv (ints out) := by
  unfold planR at h; rw [if_pos hok] at h; exact h
theorem plan_bad {W Hh : Int} {S : ByteArray} {a b step : Int} {σ τ : H} {v : Value} (h : planR W Hh S a b step σ v τ) (hok : planOK W Hh S a b step = false) :
    ∃ nm e, v = .tuple #[.slice none 0 0, .int .i64 0, e] ∧ TagE τ e nm 1 ∧ Ext σ τ := by
  unfold planR at h; rw [if_neg (by rw [hok]; simp)] at h; exact h
theorem fin3 {i j k : Nat} {ts : Fr} {σ : H} {R : Value → H → Prop} (h : R (.tuple #[ts i, ts j, ts k]) σ) : mpost [.t i, .t j, .t k] R .ret ts σ := ⟨[ts i, ts j, ts k], rfl, h⟩
/-- An error is some value of an interface. -/
theorem TagE.neq {σ : H} {v : Value} {nm : ByteArray} {n : Int} (h : TagE σ v nm n) {ts : Fr} {x : Opd} (hx : mev ts x = v) (neg : Bool) : mop ts σ (.eqN .iface neg x (.c .nilIface)) = some (.bool (if neg then true else false), σ) := by
  obtain ⟨id, rfl, _⟩ := h
  show (eqNil .iface (mev ts x) .nilIface).map _ = _
  rw [hx]
  cases neg <;> rfl

set_option maxHeartbeats 2000000 in
theorem oPlan_c (W Hh : Int) (S : ByteArray) (a b step : Int) (σ : H) : MCalls E Tryd.prog 28 [mapV W Hh S, .int .i64 a, .int .i64 b, .int .i64 step] σ (planR W Hh S a b step σ) := by
  refine mcalls_of fn28 (by simp) ?_
  unfold c28 r28 mapV
  refine stepR0 ?_
  refine ml_call Sd0 Sd0 (gopen_c W Hh S a _) ?_
  rintro _ τ ⟨rfl, e1⟩
  have g1 := e1.cells (H.get_push_self σ _)
  have e1' : Ext σ τ := (Ext.push _ _).trans e1
  refine ml_mid (fun ts τ' => Ext τ τ' ∧ ts 1 = .int .i64 a ∧ ts 2 = .int .i64 b ∧ ts 3 = .int .i64 step ∧ ts 4 = .pointer (some ⟨σ.size, 0, none⟩) ∧ ts 22 = .bool (!(gr W Hh S && opn S a && opn S b))) ?_ ?_
  · cases h1 : gr W Hh S && opn S a
    · refine stepR0 ?_
      exact ⟨Ext.refl _, Sd0, Sd0, Sd0, Sd0, Sd0⟩
    · have hg : gr W Hh S = true := by rw [Bool.and_eq_true] at h1; exact h1.1
      (have fx := g1; refine stepR ?_; clear fx)
      refine ml_call Sd0 Sd0 (gopen_c W Hh S b τ) ?_
      rintro _ τ2 ⟨rfl, e2⟩
      rw [hg, Bool.true_and]
      refine stepR0 ?_
      exact ⟨e2, Sd0, Sd0, Sd0, Sd0, Sd0⟩
  rintro ts τ2 ⟨e2, t1, t2, t3, t4, t22⟩
  have e2' := e1'.trans e2
  have g2 := e2.cells g1
  cases h1 : gr W Hh S && opn S a && opn S b
  · have hbad : planOK W Hh S a b step = false := by unfold planOK; rw [h1]; rfl
    rw [h1] at t22
    (have fx := t22; refine stepR ?_; clear fx)
    refine ml_call Sd0 Sd0 (tag_c _ _ _) ?_
    rintro ev τ3 ⟨he, e3⟩
    refine stepR0 ?_
    refine fin3 ?_
    unfold planR
    rw [if_neg (by rw [hbad]; simp)]
    exact ⟨_, ev, Sd0, he, e2'.trans e3⟩
  have h1' := h1
  simp only [Bool.and_eq_true] at h1'
  obtain ⟨⟨hg, ha⟩, hb⟩ := h1'
  rw [h1] at t22
  (have fx := And.intro t22 (And.intro t4 (And.intro g2 (And.intro t2 t3))); refine stepR ?_; clear fx)
  refine ml_call Sd0 (have fx := t2; Sd) (costs_c W Hh S [b] step _ _ (one_rd (H.get_push_self _ _))) ?_
  intro v τ3 hc
  cases hok : costOK W Hh S [b] step
  · have hbad : planOK W Hh S a b step = false := by
      unfold costOK at hok
      unfold planOK
      rw [h1]
      rw [hg] at hok
      simpa using hok
    obtain ⟨ev, rfl, he, e3⟩ := cost_bad hc hok
    refine stepR0 ?_
    refine ml_op Sd0 (he.neq Sd0 true) ?_
    refine stepR0 ?_
    refine fin3 ?_
    unfold planR
    rw [if_neg (by rw [hbad]; simp)]
    exact ⟨_, ev, Sd0, he, e2'.trans ((Ext.push _ _).trans e3)⟩
  · have hgood : planOK W Hh S a b step = true := by
      unfold costOK at hok
      unfold planOK
      rw [h1]
      rw [hg] at hok
      simpa using hok
    obtain ⟨fv, f, rfl, hcf, hof⟩ := cost_ok hc hok
    have e3 := (Ext.push τ2 _).trans hof.1
    have g3 := e3.cells g2
    have hal := opn_lt ha
    have afa := ints_at (l := f) (i := a.toNat) (by rw [hcf.1]; omega)
    (have fx := And.intro t4 (And.intro g3 t1); refine stepR ?_; clear fx)
    refine mld_getS (q := a) Sd0 hof.rd Sd0 (have fx := t1; Sd) hal.1 afa (fun p => Sd0) fun p => ?_
    refine stepR0 ?_
    refine mld_call Sd0 (have fx := t1; Sd) (fWay_c W Hh S hof.rd a) (fun _ _ ⟨_, h, _⟩ => h.1) ?_
    rintro wv τ4 ⟨out, how, hway⟩
    refine stepR0 ?_
    refine fin3 ?_
    unfold planR
    rw [if_pos hgood]
    refine ⟨wv, out, f, Sd0, hcf, hway, ?_⟩
    obtain ⟨e5, o5, own5, h5⟩ := how
    have eall := e2'.trans e3
    exact ⟨eall.trans e5, o5, own5, fun id hi => Nat.le_trans eall.size (h5 id hi)⟩

/-! ## Distances -/
section
variable {W Hh : Int} {S : ByteArray}
theorem wk_cons {a b : Int} (hb : opn S b = true) (hab : a ∈ nearL W S b) : ∀ {k : Nat} {x : Int}, Wk W S [a] k x → Wk W S [b] (k + 1) x := by
  intro k x h
  induction h with
  | src h ho => simp at h; subst h; exact .step (.src (by simp) hb) hab
  | step _ hn ih => exact .step ih hn
theorem wk_rev (hW : 1 ≤ W ∧ W ≤ 8) {a b : Int} {k : Nat} (h : Wk W S [b] k a) : Wk W S [a] k b := by
  induction h with
  | src h ho => simp at h; subst h; exact .src (by simp) ho
  | step hy hx ih => exact wk_cons (near_opn hx) (near_symm hW hy.opn hx) ih
theorem wk_trans {a b c : Int} {i j : Nat} (h1 : Wk W S [a] i b) (h2 : Wk W S [b] j c) : Wk W S [a] (i + j) c := by
  induction h2 with
  | src h ho => simp at h; subst h; exact h1
  | step _ hn ih => exact .step ih hn
theorem fs_rev (hg : gr W Hh S = true) {a b st : Int} {f g : List Int} (ha : opn S a = true) (hb : opn S b = true) (hf : Cst W S [b] st f) (hgc : Cst W S [a] st g) : f.getD a.toNat 0 = g.getD b.toNat 0 := by
  have hW := (gr_size hg).1
  rcases cst_at hf ha with ⟨h1, h2⟩ | ⟨k, h1, h2, h3⟩ <;> rcases cst_at hgc hb with ⟨k1, k2⟩ | ⟨l, k1, k2, k3⟩
  · rw [h1, k1]
  · exact absurd (wk_rev hW k1) (h2 l)
  · exact absurd (wk_rev hW h1) (k2 k)
  · rw [h3, k3, Nat.le_antisymm (h2 _ (wk_rev hW k1)) (k2 _ (wk_rev hW h1))]
end
end Go.Proofs.YtcjogomiiinkfaaDoor
