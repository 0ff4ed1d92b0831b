/- field.Down. -/
import Derived.Test.YtcjogomiiinkfaaDoorFieldC
import Derived.Test.YtcjogomiiinkfaaDoorHeapF
namespace Go.Proofs.YtcjogomiiinkfaaDoor
open Go.Mini
open Go.Proofs.YtcjogomiiinkfaaDoor.Code
set_option linter.unusedVariables false
set_option linter.unusedSimpArgs false
set_option linter.ambiguousOpen false
attribute [local irreducible] mx ml mld mstep MCalls Ex.thn Ex.inb
section
variable {E : World → Prop} {P : Program} {ts : Fr} {σ τ σ0 : H} {v : Value} {K : Fr → H → Prop} {Q : MQ} {rest : List MI}
/-- One element more, to a slice of the call's own. -/
theorem ml_appG {d : Option Nat} {g : Option (Nat × Bool)} {sz bytes : Nat} {xs xx : Opd} {cs vs : List Value} {tid : Nat} (hw : wantM ts g = true) (hv : mev ts xs = v) (hx : mev ts xx = .slice (some ⟨tid, 0, none⟩) 1 1)
    (ho : Out σ0 σ sz v cs) (ht : σ.get tid = .cells sz vs) (hl : vs.length = sz) (hz : sz ≠ 0) (h1 : (cs ++ vs).all one = true) (hb : bytes ≤ 128) (hn : cs.length < appMax)
    (h : ∀ v' τ, Out σ0 τ sz v' (cs ++ vs) → ml E P rest K (updO ts d v') τ) :
    ml E P (⟨d, .app sz bytes xs xx, g⟩ :: rest) K ts σ := by
  obtain ⟨e, oid, own, hid⟩ := ho
  refine ml_app1 hw hv hx own ht hl hz h1 hb hn fun v' τ o2 s2 k2 => h v' τ ⟨⟨by have := e.size; omega, fun i hi => ?_⟩, _, o2, fun id hi => ?_⟩
  · have := e.size
    rw [k2 i (by omega) (fun x => by have := hid i x; omega), e.get i hi]
  · injection hi with hi; have := e.size; omega
end
variable {E : World → Prop}

/-- The neighbours that are nearer, as items. -/
def dnI (W : Int) (S : ByteArray) (f : List Int) (c : Int) : List Due := ((nearL W S c).filter fun n => decide (0 ≤ f.getD n.toNat 0) && decide (f.getD n.toNat 0 < f.getD c.toNat 0)).map fun n => (f.getD n.toNat 0, n)
def DownL (W : Int) (S : ByteArray) (f : List Int) (c : Int) (out : List Int) : Prop := ∃ l : List Due, l.Perm (dnI W S f c) ∧ l.Pairwise le ∧ out = l.map (·.2)
noncomputable def downOK (W Hh : Int) (S : ByteArray) (f : List Int) (c : Int) : Bool := decide (f.length = S.size) && (gr W Hh S && opn S c) && decide (0 ≤ f.getD c.toNat 0)
def DownR (W Hh : Int) (S : ByteArray) (f : List Int) (c : Int) (out : List Int) : Prop := if downOK W Hh S f c = true then DownL W S f c out else out = []
set_option maxHeartbeats 4000000 in
theorem fDown_c (W Hh : Int) (S : ByteArray) {σ : H} {fv : Value} {f : List Int} (hr : Rd σ fv (ints f)) (c : Int) :
    MCalls E Tryd.prog 24 [mapV W Hh S, fv, .int .i64 c] σ (fun v τ => ∃ out, Out σ τ 1 v (ints out) ∧ DownR W Hh S f c out) := by
  refine mcalls_of fn24 (by simp) ?_
  unfold c24 r24 mapV
  refine stepR0 ?_
  refine ml_len Sd0 (hr.of_ext (Ext.push _ _)) Sd0 ?_
  rw [ints_len]
  generalize hτ : H.push _ _ = τ
  have e1 : Ext σ τ := hτ ▸ Ext.push _ _
  have g1 : τ.get σ.size = .cells 0 [.int .i64 W, .int .i64 Hh, .string S] := by rw [← hτ]; exact H.get_push_self _ _
  have r1 := hr.of_ext e1
  clear hτ
  refine ml_mid (fun ts τ' => Ext τ τ' ∧ ts 1 = fv ∧ ts 2 = .int .i64 c ∧ ts 3 = .pointer (some ⟨σ.size, 0, none⟩) ∧ ts 31 = .bool (!downOK W Hh S f c)) ?_ ?_
  · by_cases h1 : f.length = S.size
    · have h1' : ((f.length : Int) != (S.size : Int)) = false := by rw [h1]; simp
      (have fx := And.intro g1 h1'; refine stepR ?_; clear fx)
      refine ml_call Sd0 Sd0 (gopen_c W Hh S c τ) ?_
      rintro _ τ2 ⟨rfl, e2⟩
      cases h2 : gr W Hh S && opn S c
      · have hd : downOK W Hh S f c = false := by simp [downOK, h2]
        rw [hd]
        refine stepR0 ?_
        exact ⟨e2, Sd0, Sd0, Sd0, Sd0⟩
      · have ho : opn S c = true := by rw [Bool.and_eq_true] at h2; exact h2.2
        have hc := opn_lt ho
        have hci : c.toNat < f.length := by omega
        refine stepR0 ?_
        refine ml_getSg (q := c) Sd0 (r1.of_ext e2) Sd0 Sd0 hc.1 (ints_at hci) (fun p => Sd0) fun p => ?_
        by_cases h3 : 0 ≤ f.getD c.toNat 0
        · have hd : downOK W Hh S f c = true := by unfold downOK; rw [h2, decide_eq_true h1, decide_eq_true h3]; rfl
          have h3' : ¬ f.getD c.toNat 0 < 0 := by omega
          rw [hd]
          (have fx := h3'; refine stepR ?_; clear fx)
          exact ⟨e2, Sd0, Sd0, Sd0, (have fx := h3'; Sd)⟩
        · have hd : downOK W Hh S f c = false := by unfold downOK; rw [decide_eq_false h3, Bool.and_false]
          have h3' : f.getD c.toNat 0 < 0 := by omega
          rw [hd]
          (have fx := h3'; refine stepR ?_; clear fx)
          exact ⟨e2, Sd0, Sd0, Sd0, (have fx := h3'; Sd)⟩
    · have h1' : ((f.length : Int) != (S.size : Int)) = true := by simp; omega
      have hd : downOK W Hh S f c = false := by simp [downOK, h1]
      rw [hd]
      (have fx := And.intro g1 h1'; refine stepR ?_; clear fx)
      exact ⟨Ext.refl _, Sd0, Sd0, Sd0, Sd0⟩
  rintro ts τ2 ⟨e2, t1, t2, t3, t31⟩
  unfold DownR
  cases hd : downOK W Hh S f c
  · rw [hd] at t31
    (have fx := t31; refine stepR ?_; clear fx)
    refine fin1 ⟨[], ?_, by rw [if_neg (by simp)]⟩
    simp only [go_sem, reduceIte, Nat.reduceEqDiff, reduceCtorEq, Nat.reduceAdd, Nat.reduceLeDiff, Int.reduceNeg, Int.reduceToNat, Int.reduceBEq, Int.reduceBNe, Int.reduceLT, Int.reduceLE, Int.reduceAdd, Int.reduceSub]
    exact Out.nil (e1.trans e2)
  rw [hd] at t31
  have hd' := hd
  simp only [downOK, Bool.and_eq_true, decide_eq_true_eq] at hd'
  obtain ⟨⟨hfl, hg, ho⟩, hfc⟩ := hd'
  have hgs := gr_size hg
  obtain ⟨hS1, hS64⟩ := hgs.2.2.2.1
  have hc := opn_lt ho
  have g2 := e2.cells g1
  have r2 := r1.of_ext e2
  (have fx := And.intro t31 (And.intro t2 (And.intro t3 g2)); refine stepR ?_; clear fx)
  refine ml_call Sd0 Sd0 (gnear_c W Hh S c τ2) ?_
  intro nv τB on
  have hnl : gnear W Hh S c (gr W Hh S) = nearL W S c := by rw [gnear, hg, ho, Bool.and_self, if_pos rfl]
  rw [hnl] at on
  have rB := r2.of_ext on.1
  have eσB : Ext σ τB := e1.trans (e2.trans on.1)
  have hn4 := nearL_len W S c
  have hli := ints_len (nearL W S c)
  refine stepR0 ?_
  refine ml_len Sd0 on.rd Sd0 ?_
  rw [ints_len]
  refine stepR0 ?_
  let p : Int → Bool := fun n => decide (0 ≤ f.getD n.toNat 0) && decide (f.getD n.toNat 0 < f.getD c.toNat 0)
  let g : Int → Due := fun n => (f.getD n.toNat 0, n)
  refine mx_loop (fun n ts τ => ∃ j lv, n = (nearL W S c).length - j ∧ j ≤ (nearL W S c).length ∧ ts 1 = fv ∧ ts 2 = .int .i64 c ∧ ts 7 = lv ∧ ts 34 = nv ∧ ts 35 = .int .i64 (nearL W S c).length ∧ ts 36 = .int .i64 ((j : Nat) : Int) ∧ Out τB τ 2 lv (dues ((((nearL W S c).take j).filter p).map g))) (nearL W S c).length ?_ ?_
  · exact ⟨0, .slice none 0 0, rfl, by omega, (have fx := t1; Sd), (have fx := t2; Sd), Sd0, Sd0, Sd0, Sd0, Ext.refl _, none, .nil, fun _ h => nomatch h⟩
  clear t1 t2 t3 t31 ts g1 g2 r1 r2 e1 e2
  rintro n ts τ ⟨j, lv, rfl, hj, t1, t2, t7, t34, t35, t36, out⟩
  rcases Nat.lt_or_ge j (nearL W S c).length with hjl | hjg
  · have hjl' : ((j : Nat) : Int) < ((nearL W S c).length : Int) := by omega
    have hxo : opn S ((nearL W S c).getD j 0) = true := by
      rw [List.getD_eq_getElem?_getD, List.getElem?_eq_getElem hjl]; exact near_opn (List.getElem_mem hjl)
    have htk : (nearL W S c).take (j + 1) = (nearL W S c).take j ++ [(nearL W S c).getD j 0] := by
      rw [List.take_add_one, List.getElem?_eq_getElem hjl, List.getD_eq_getElem?_getD, List.getElem?_eq_getElem hjl]; rfl
    have hat := ints_at hjl
    generalize (nearL W S c).getD j 0 = x at hxo htk hat
    have hx := opn_lt hxo
    have afx := ints_at (l := f) (i := x.toNat) (by omega)
    have afc := ints_at (l := f) (i := c.toNat) (by omega)
    have rf := rB.of_ext out.1
    have hdl := dues_len ((((nearL W S c).take j).filter p).map g)
    have hfl2 : ((((nearL W S c).take j).filter p).map g).length ≤ j := by rw [List.length_map]; exact Nat.le_trans (List.length_filter_le _ _) (by simp; omega)
    have hpx : p x = (decide (0 ≤ f.getD x.toNat 0) && decide (f.getD x.toNat 0 < f.getD c.toNat 0)) := rfl
    have hgx : g x = (f.getD x.toNat 0, x) := rfl
    have skip : p x = false → Out τB τ 2 lv (dues ((((nearL W S c).take (j + 1)).filter p).map g)) := fun h => by
      rw [htk, List.filter_append, List.map_append]; simp [h]; exact out
    (have fx := And.intro t34 (And.intro t35 (And.intro t36 hjl')); refine stepR ?_; clear fx)
    refine ml_getS (on.rd.of_ext out.1) (have fx := t34; Sd) (have fx := t36; Sd) (by omega) (by rw [Int.toNat_natCast]; exact hat) fun q => ?_
    (have fx := t1; refine stepR ?_; clear fx)
    refine mld_getS (q := x) Sd0 rf (have fx := t1; Sd) Sd0 hx.1 afx (fun p => Sd0) fun q => ?_
    generalize f.getD x.toNat 0 = fx at hpx hgx afx
    generalize f.getD c.toNat 0 = fc at hpx afc hfc
    by_cases h1 : 0 ≤ fx
    · (have fx := And.intro h1 t1; refine stepR ?_; clear fx)
      refine mld_getS (q := x) (have fx := h1; Sd) rf (have fx := t1; Sd) (have fx := h1; Sd) hx.1 afx (fun p => (have fx := h1; Sd)) fun q => ?_
      (have fx := And.intro h1 (And.intro t1 t2); refine stepR ?_; clear fx)
      refine mld_getS (q := c) (have fx := h1; Sd) rf (have fx := t1; Sd) (have fx := t2; Sd) hc.1 afc (fun p => (have fx := h1; Sd)) fun q => ?_
      by_cases h2 : fx < fc
      · (have fx := And.intro h1 (And.intro h2 t1); refine stepR ?_; clear fx)
        refine ml_getS (q := x) rf (have fx := t1; Sd) Sd0 hx.1 afx fun q => ?_
        refine stepR0 ?_
        refine ml_appG (cs := dues ((((nearL W S c).take j).filter p).map g)) (vs := [.int .i64 fx, .int .i64 x]) Sd0 (have fx := t7; Sd) Sd0 (out.of_ext (Ext.push _ _)) (H.get_push_self _ _) rfl (by omega) (by rw [List.all_append, dues_one]; rfl) (by omega) (by simp only [appMax]; omega) ?_
        intro lv' τ' out'
        have hda : dues ((((nearL W S c).take j).filter p).map g) ++ [.int .i64 fx, .int .i64 x] = dues ((((nearL W S c).take (j + 1)).filter p).map g) := by
          rw [htk, List.filter_append, List.map_append, dues_app]
          have : p x = true := by rw [hpx]; simp [h1, h2]
          simp [this, hgx, dues]
        rw [hda] at out'
        (have fx := t36; refine stepR ?_; clear fx)
        exact ⟨_, by omega, j + 1, lv', rfl, hjl, (have fx := t1; Sd), (have fx := t2; Sd), Sd0, (have fx := t34; Sd), (have fx := t35; Sd), Sd0, out'⟩
      · (have fx := And.intro h1 (And.intro h2 t36); refine stepR ?_; clear fx)
        exact ⟨_, by omega, j + 1, lv, rfl, hjl, (have fx := t1; Sd), (have fx := t2; Sd), (have fx := t7; Sd), (have fx := t34; Sd), (have fx := t35; Sd), Sd0, skip (by rw [hpx]; simp [h2])⟩
    · (have fx := And.intro h1 t36; refine stepR ?_; clear fx)
      exact ⟨_, by omega, j + 1, lv, rfl, hjl, (have fx := t1; Sd), (have fx := t2; Sd), (have fx := t7; Sd), (have fx := t34; Sd), (have fx := t35; Sd), Sd0, skip (by rw [hpx]; simp [h1])⟩
  · obtain rfl : j = (nearL W S c).length := by omega
    rw [List.take_length] at out
    have hnl2 : ¬ ((nearL W S c).length : Int) < ((nearL W S c).length : Int) := by omega
    obtain ⟨eB, lo, ownl, hlo⟩ := out
    have hfl2 : (((nearL W S c).filter p).map g).length ≤ 4 := by rw [List.length_map]; exact Nat.le_trans (List.length_filter_le _ _) hn4
    (have fx := And.intro t35 (And.intro t36 (And.intro hnl2 t7)); refine stepR ?_; clear fx)
    refine ml_call Sd0 (have fx := t7; Sd) (hSorted_c ownl (by omega)) ?_
    rintro sv τC ⟨so, srt, eC, owns, pm, pw⟩
    have hsl : srt.length ≤ 4 := by rw [pm.length_eq]; exact hfl2
    have hds := dues_len srt
    refine stepR0 ?_
    refine ml_op Sd0 (len_own owns Sd0) ?_
    refine stepR0 ?_
    refine mx_loop (fun n ts τ => ∃ j ov, n = srt.length - j ∧ j ≤ srt.length ∧ ts 10 = ov ∧ ts 67 = sv ∧ ts 68 = .int .i64 srt.length ∧ ts 69 = .int .i64 ((j : Nat) : Int) ∧ Out τC τ 1 ov (ints ((srt.take j).map (·.2)))) srt.length ?_ ?_
    · exact ⟨0, .slice none 0 0, rfl, by omega, Sd0, Sd0, Sd0, Sd0, Ext.refl _, none, .nil, fun _ h => nomatch h⟩
    clear t1 t2 t7 t34 t35 t36
    rintro n ts τ3 ⟨j, ov, rfl, hj, t10, t67, t68, t69, out⟩
    rcases Nat.lt_or_ge j srt.length with hjl | hjg
    · have hjl' : ((j : Nat) : Int) < (srt.length : Int) := by omega
      rcases own2_get (owns.of_ext out.1) with ⟨_, _, rfl⟩ | ⟨id, rfl, _, hgs2⟩
      · simp at hjl
      have hrow := dues_row srt j hjl
      have htk : srt.take (j + 1) = srt.take j ++ [srt.getD j (0, 0)] := by
        rw [List.take_add_one, List.getElem?_eq_getElem hjl, List.getD_eq_getElem?_getD, List.getElem?_eq_getElem hjl]; rfl
      (have fx := And.intro t67 (And.intro t68 (And.intro t69 hjl')); refine stepR ?_; clear fx)
      refine ml_loadN Sd0 Sd0 (row_of hgs2 hrow) ?_
      generalize srt.getD j (0, 0) = x at htk
      refine stepR0 ?_
      refine ml_init (vs := [.int .i64 x.1, .int .i64 x.2]) Sd0 Sd0 Sd0 rfl rfl rfl fun τ4 e4 g4 => ?_
      (have fx := And.intro t10 g4; refine stepR ?_; clear fx)
      refine ml_appG (cs := ints ((srt.take j).map (·.2))) (vs := [.int .i64 x.2]) Sd0 (have fx := t10; Sd) Sd0 ((out.of_ext e4).of_ext (Ext.push _ _)) (H.get_push_self _ _) rfl (by omega) (by rw [List.all_append, ints_one]; rfl) (by omega) (by rw [ints_len]; simp only [appMax, List.length_map, List.length_take]; omega) ?_
      intro ov' τ5 out5
      have hia : ints ((srt.take j).map (·.2)) ++ [.int .i64 x.2] = ints ((srt.take (j + 1)).map (·.2)) := by rw [htk, List.map_append]; simp [ints]
      rw [hia] at out5
      (have fx := t69; refine stepR ?_; clear fx)
      exact ⟨_, by omega, j + 1, ov', rfl, hjl, Sd0, (have fx := t67; Sd), (have fx := t68; Sd), Sd0, out5⟩
    · obtain rfl : j = srt.length := by omega
      rw [List.take_length] at out
      have hnl3 : ¬ (srt.length : Int) < (srt.length : Int) := by omega
      (have fx := And.intro t68 (And.intro t69 hnl3); refine stepR ?_; clear fx)
      refine fin1 ⟨srt.map (·.2), ?_, ?_⟩
      · simp only [go_sem, reduceIte, Nat.reduceEqDiff, reduceCtorEq, Nat.reduceAdd, Nat.reduceLeDiff, Int.reduceNeg, Int.reduceToNat, Int.reduceBEq, Int.reduceBNe, Int.reduceLT, Int.reduceLE, Int.reduceAdd, Int.reduceSub, t10]
        obtain ⟨e5, o5, own5, h5⟩ := out
        have eall : Ext σ τC := eσB.trans (eB.trans eC)
        exact ⟨eall.trans e5, o5, own5, fun id hi => Nat.le_trans eall.size (h5 id hi)⟩
      · rw [if_pos rfl]
        exact ⟨srt, pm, pw, rfl⟩
end Go.Proofs.YtcjogomiiinkfaaDoor
