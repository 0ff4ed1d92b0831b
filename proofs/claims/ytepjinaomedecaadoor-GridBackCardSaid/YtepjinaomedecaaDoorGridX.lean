/- GridPlays and GridBack. -/
import Derived.Test.YtepjinaomedecaaDoorGridO
import Derived.Test.YtepjinaomedecaaDoorGridW
namespace Go.Mini
section
variable {ts : Fr} {σ : H}
theorem o_eqA_same {x y : Opd} {neg : Bool} {W Hh : Int} {S : ByteArray} (hx : mev ts x = .agg #[.int .i64 W, .int .i64 Hh, .string S]) (hy : mev ts y = .agg #[.int .i64 W, .int .i64 Hh, .string S]) :
    mop ts σ (.eqA neg [.int, .int, .str] x y) = some (.bool (!neg), σ) := by
  simp only [mop, hx, hy, List.length_cons, List.length_nil, and_self, if_true, eqCells, eqCell, beq_self_eq_true, Option.map_some]
  cases neg <;> rfl
end
end Go.Mini
namespace Go.Proofs.YtepjinaomedecaaDoor
open Go.Mini
open Go.Proofs.YtepjinaomedecaaDoor.Code
set_option linter.unusedVariables false
set_option linter.unusedSimpArgs false
set_option linter.ambiguousOpen false
attribute [local irreducible] mx ml mld mstep MCalls Ex.thn Ex.inb
variable {E : World → Prop}

/-- What is parsed, and what the document reads. -/
theorem parse_read (hE : ∀ w, E w → ErrType w) {σ τ : H} {s : ByteArray} {pv : Value} (h : parseQ σ s pv τ) : ∃ W Hh S ev num, pv = .tuple #[mapV W Hh S, ev] ∧ Ext σ τ ∧
    (∀ τ', Ext τ τ' → MCalls E Tryd.prog 14 [ev] τ' (fun r τ'' => r = .int .i64 num ∧ Ext τ' τ'')) ∧ ∀ σ0 rv τr, readQ σ0 s rv τr → rv = .tuple #[mapV W Hh S, .bool (num == 0)] := by
  obtain ⟨e, ⟨W, Hh, S, rfl, hp⟩ | ⟨ev, rfl, he, hno⟩⟩ := h
  · refine ⟨W, Hh, S, _, 0, rfl, e, fun τ' e' => MCalls.mono (tNum_nil τ') fun v τ ⟨h1, h2⟩ => ⟨h1, h2 ▸ Ext.refl _⟩, fun σ0 rv τr hr => ?_⟩
    obtain ⟨_, ⟨W', H', S', rfl, hp'⟩ | ⟨_, hno⟩⟩ := hr
    · obtain ⟨rfl, rfl, rfl⟩ := parsed_uniq hp hp'; rfl
    · exact absurd hp (hno _ _ _)
  · refine ⟨0, 0, ⟨#[]⟩, ev, 2, rfl, e, fun τ' e' => tNum_c hE (he.of_ext e').chain, fun σ0 rv τr hr => ?_⟩
    obtain ⟨_, ⟨W', H', S', rfl, hp'⟩ | ⟨rfl, hno⟩⟩ := hr
    · exact absurd hp' (hno _ _ _)
    · rfl

set_option maxHeartbeats 8000000 in
theorem gridPlays_c (hE : ∀ w, E w → ErrType w) (W Hh : Int) (S : ByteArray) (s : ByteArray) {σ : H} :
    MCalls E Tryd.prog 4 [mapV W Hh S, .string s] σ (fun v τ => v = .bool true) := by
  refine mcalls_of fn4 (by simp) ?_
  unfold c4 r4 mapV
  refine stepR0 ?_
  refine ml_call Sd0 Sd0 (gAwake_c _) ?_
  rintro _ τ ⟨rfl, e1⟩
  have g1 := e1.cells (H.get_push_self σ _)
  by_cases hS : 200 < S.size
  · have hS' : (200 : Int) < (S.size : Int) := by omega
    (have fx := And.intro g1 hS'; refine stepR ?_; clear fx)
    refine ml_call Sd0 Sd0 (gAwake_c _) ?_
    rintro _ τ2 ⟨rfl, e2⟩
    refine stepR0 ?_
    exact fin1 Sd0
  have hS' : ¬ (200 : Int) < (S.size : Int) := by omega
  by_cases hs : 200 < s.size
  · have hs' : (200 : Int) < (s.size : Int) := by omega
    (have fx := And.intro g1 (And.intro hS' hs'); refine stepR ?_; clear fx)
    refine ml_call Sd0 Sd0 (gAwake_c _) ?_
    rintro _ τ2 ⟨rfl, e2⟩
    refine stepR0 ?_
    exact fin1 Sd0
  have hs' : ¬ (200 : Int) < (s.size : Int) := by omega
  (have fx := And.intro g1 (And.intro hS' hs'); refine stepR ?_; clear fx)
  refine ml_call Sd0 Sd0 (gOf_c W Hh S τ) ?_
  rintro _ τ2 ⟨rfl, e2⟩
  have g2 := e2.cells g1
  refine stepR0 ?_
  refine ml_call Sd0 Sd0 (gLay_c W Hh S τ2) ?_
  rintro v τ3 ⟨e3, hv⟩
  have g3 := e3.cells g2
  -- what is laid, and its error's number
  obtain ⟨T, ev, num, rfl, hnum, hT, hn⟩ : ∃ T ev num, v = .tuple #[.string T, ev] ∧ (∀ τ', Ext τ3 τ' → MCalls E Tryd.prog 14 [ev] τ' (fun r τ'' => r = .int .i64 num ∧ Ext τ' τ'')) ∧ (gr W Hh S = true → T = ⟨(layT W.toNat Hh.toNat S.data.toList).toArray⟩) ∧ ((num == 0) = gr W Hh S) := by
    cases hg : gr W Hh S
    · rw [hg] at hv
      simp only [Bool.false_eq_true, if_false] at hv
      obtain ⟨ev, rfl, he⟩ := hv
      exact ⟨_, ev, 1, rfl, fun τ' e' => tNum_c hE (he.of_ext e').chain, fun h => (by cases h), rfl⟩
    · rw [hg] at hv
      simp only [if_true] at hv
      subst hv
      exact ⟨_, _, 0, rfl, fun τ' e' => MCalls.mono (tNum_nil τ') fun v τ ⟨h1, h2⟩ => ⟨h1, h2 ▸ Ext.refl _⟩, fun _ => rfl, rfl⟩
  clear hv
  (have fx := g3; refine stepR ?_; clear fx)
  refine ml_call Sd0 Sd0 (rRight_c W Hh S τ3) ?_
  rintro _ τ4 ⟨rfl, e4⟩
  have g4 := e4.cells g3
  (have fx := g4; refine stepR ?_; clear fx)
  refine ml_call Sd0 Sd0 (gOf_c W Hh S τ4) ?_
  rintro _ τ5 ⟨rfl, e5⟩
  have g5 := e5.cells g4
  refine stepR0 ?_
  refine ml_call Sd0 Sd0 (right_c W Hh S τ5) ?_
  rintro _ τ6 ⟨rfl, e6⟩
  have g6 := e6.cells g5
  have hnum6 := fun τ' e' => hnum τ' ((e4.trans (e5.trans e6)).trans e')
  refine ml_cut (fun ts τ' => ts 1 = .string s) ?_ ?_
  · cases hg : gr W Hh S
    · rw [hg] at hn
      refine stepR0 ?_
      refine ml_call Sd0 Sd0 (hnum6 τ6 (Ext.refl _)) ?_
      rintro _ τ7 ⟨rfl, e7⟩
      (have fx := hn; refine stepR ?_; clear fx)
      exact Sd0
    · rw [hg] at hn
      obtain rfl := hT hg
      refine stepR0 ?_
      refine ml_call Sd0 Sd0 (hnum6 τ6 (Ext.refl _)) ?_
      rintro _ τ7 ⟨rfl, e7⟩
      have g7 := e7.cells g6
      (have fx := And.intro hn g7; refine stepR ?_; clear fx)
      refine ml_call (have fx := hn; Sd) (have fx := hn; Sd) (rLay_c W Hh S τ7 hg) ?_
      rintro _ τ8 ⟨e8, rfl⟩
      (have fx := hn; refine stepR ?_; clear fx)
      exact Sd0
  rintro ts τ7 t1
  (have fx := t1; refine stepR ?_; clear fx)
  refine ml_call Sd0 Sd0 (gParse_c s (by omega) τ7) ?_
  intro pv τ8 hp
  obtain ⟨W2, H2, S2, ev2, n2, rfl, e8, hnum8, hrd⟩ := parse_read hE hp
  refine stepR0 ?_
  refine ml_init (vs := mapC W2 H2 S2) Sd0 Sd0 Sd0 rfl rfl rfl fun τ9 e9 g9 => ?_
  (have fx := t1; refine stepR ?_; clear fx)
  refine ml_call Sd0 (have fx := t1; Sd) (rRead_c s (by omega) τ9) ?_
  intro rv τ10 hr
  obtain rfl := hrd _ _ _ hr
  have e10 := hr.1
  refine stepR0 ?_
  refine ml_init (vs := mapC W2 H2 S2) Sd0 Sd0 Sd0 rfl rfl rfl fun τ11 e11 g11 => ?_
  have g9' := e11.cells (e10.cells g9)
  (have fx := And.intro g9' g11; refine stepR ?_; clear fx)
  refine mld_call Sd0 Sd0 (gOf_c W2 H2 S2 τ11) (fun _ _ h => h.2) ?_
  rintro _ τ12 ⟨rfl, e12⟩
  refine mld_op Sd0 (o_eqA_same (W := W2) (Hh := H2) (S := S2) Sd0 Sd0) ?_
  refine stepR0 ?_
  refine mld_callW Sd0 Sd0 (hnum8 τ12 (((e9.trans e10).trans e11).trans e12)) ?_
  rintro _ τ13 ⟨rfl, e13⟩
  generalize hb : (n2 == 0) = b2
  (have fx := hb; refine stepR ?_; clear fx)
  exact fin1 (have fx := hb; Sd)

set_option maxHeartbeats 8000000 in
theorem gridBack_c (hE : ∀ w, E w → ErrType w) (W Hh : Int) (S : ByteArray) (s : ByteArray) {σ : H} :
    MCalls E Tryd.prog 3 [mapV W Hh S, .string s] σ (fun v τ => v = .bool true) := by
  refine mcalls_of fn3 (by simp) ?_
  unfold c3 r3 mapV
  refine stepR0 ?_
  refine ml_call Sd0 Sd0 (gAwake_c _) ?_
  rintro _ τ ⟨rfl, e1⟩
  have g1 := e1.cells (H.get_push_self σ _)
  by_cases hS : 200 < S.size
  · have hS' : (200 : Int) < (S.size : Int) := by omega
    (have fx := And.intro g1 hS'; refine stepR ?_; clear fx)
    refine ml_call Sd0 Sd0 (gAwake_c _) ?_
    rintro _ τ2 ⟨rfl, e2⟩
    refine stepR0 ?_
    exact fin1 Sd0
  have hS' : ¬ (200 : Int) < (S.size : Int) := by omega
  by_cases hs : 200 < s.size
  · have hs' : (200 : Int) < (s.size : Int) := by omega
    (have fx := And.intro g1 (And.intro hS' hs'); refine stepR ?_; clear fx)
    refine ml_call Sd0 Sd0 (gAwake_c _) ?_
    rintro _ τ2 ⟨rfl, e2⟩
    refine stepR0 ?_
    exact fin1 Sd0
  have hs' : ¬ (200 : Int) < (s.size : Int) := by omega
  (have fx := And.intro g1 (And.intro hS' hs'); refine stepR ?_; clear fx)
  refine ml_call Sd0 Sd0 (gOf_c W Hh S τ) ?_
  rintro _ τ2 ⟨rfl, e2⟩
  have g2 := e2.cells g1
  refine stepR0 ?_
  refine ml_call Sd0 Sd0 (gLay_c W Hh S τ2) ?_
  rintro v τ3 ⟨e3, hv⟩
  have g3 := e3.cells g2
  -- what is laid is read as it was
  have hcut : ∃ T ev, v = .tuple #[.string T, ev] := by
    cases hg : gr W Hh S
    · rw [hg] at hv; simp only [Bool.false_eq_true, if_false] at hv; obtain ⟨ev, rfl, _⟩ := hv; exact ⟨_, _, rfl⟩
    · rw [hg] at hv; simp only [if_true] at hv; exact ⟨_, _, hv⟩
  obtain ⟨T, ev, rfl⟩ := hcut
  refine stepR0 ?_
  refine ml_cut (fun ts τ' => ts 1 = .string s) ?_ ?_
  · cases hg : gr W Hh S
    · rw [hg] at hv
      simp only [Bool.false_eq_true, if_false] at hv
      obtain ⟨ev', hv, he⟩ := hv
      simp only [Value.tuple.injEq, Array.mk.injEq, List.cons.injEq, Value.string.injEq, and_true] at hv
      obtain ⟨rfl, rfl⟩ := hv
      refine stepR0 ?_
      refine ml_call Sd0 Sd0 (tNum_c hE he.chain) ?_
      rintro _ τ7 ⟨rfl, e7⟩
      refine stepR0 ?_
      refine ml_call Sd0 Sd0 (tNum_c hE (he.of_ext e7).chain) ?_
      rintro _ τ8 ⟨rfl, e8⟩
      refine stepR0 ?_
      exact Sd0
    · rw [hg] at hv
      simp only [if_true] at hv
      simp only [Value.tuple.injEq, Array.mk.injEq, List.cons.injEq, Value.string.injEq, and_true] at hv
      obtain ⟨rfl, rfl⟩ := hv
      have hgs := gr_size hg
      have hTl : (⟨(layT W.toNat Hh.toNat S.data.toList).toArray⟩ : ByteArray).size ≤ 1000000 := by
        have h1 := layT_len W.toNat Hh.toNat S.data.toList
        have h2 : Hh.toNat * (W.toNat + 1) ≤ 8 * 9 := Nat.mul_le_mul (by omega) (by omega)
        show (layT W.toNat Hh.toNat S.data.toList).length ≤ _
        omega
      generalize hT : (⟨(layT W.toNat Hh.toNat S.data.toList).toArray⟩ : ByteArray) = T at hTl
      have hpt : Parsed T.data.toList W Hh S := by rw [← hT]; exact lay_parsed hg
      refine stepR0 ?_
      refine ml_call Sd0 Sd0 (tNum_nil τ3) ?_
      rintro _ τ7 ⟨rfl, rfl⟩
      refine stepR0 ?_
      refine ml_call Sd0 Sd0 (gParse_c T hTl τ7) ?_
      rintro pv τ8 ⟨e8, ⟨W', H', S', rfl, hp⟩ | ⟨_, _, _, hno⟩⟩
      rotate_left
      · exact absurd hpt (hno _ _ _)
      obtain ⟨rfl, rfl, rfl⟩ := parsed_uniq hpt hp
      have g8 := e8.cells g3
      refine stepR0 ?_
      refine ml_init (vs := mapC W Hh S) Sd0 Sd0 Sd0 rfl rfl rfl fun τ9 e9 g9 => ?_
      have g89 := e9.cells g8
      refine stepR0 ?_
      refine mld_callW Sd0 Sd0 (tNum_nil τ9) ?_
      rintro _ τ10 ⟨rfl, rfl⟩
      (have fx := And.intro g89 g9; refine stepR ?_; clear fx)
      refine mld_call Sd0 Sd0 (gOf_c W Hh S τ10) (fun _ _ h => h.2) ?_
      rintro _ τ11 ⟨rfl, e11⟩
      refine mld_op Sd0 (o_eqA_same (W := W) (Hh := Hh) (S := S) Sd0 Sd0) ?_
      refine stepR0 ?_
      exact Sd0
  clear hv g1 g2 g3 e1 e2 e3
  rintro ts τ7 t1
  (have fx := t1; refine stepR ?_; clear fx)
  refine ml_call Sd0 Sd0 (gParse_c s (by omega) τ7) ?_
  rintro pv τ8 ⟨e8, ⟨W', H', S', rfl, hp⟩ | ⟨ev2, rfl, he, hno⟩⟩
  · have hlay := parsed_lay hp
    obtain ⟨hg, _⟩ := hp
    refine stepR0 ?_
    refine ml_init (vs := mapC W' H' S') Sd0 Sd0 Sd0 rfl rfl rfl fun τ9 e9 g9 => ?_
    refine stepR0 ?_
    refine ml_call Sd0 Sd0 (tNum_nil τ9) ?_
    rintro _ τ10 ⟨rfl, rfl⟩
    (have fx := g9; refine stepR ?_; clear fx)
    refine ml_call Sd0 Sd0 (gLay_c W' H' S' τ10) ?_
    rintro v τ11 ⟨e11, hv⟩
    rw [if_pos hg, ← hlay] at hv
    subst hv
    have g11 := e11.cells g9
    refine stepR0 ?_
    refine ml_call Sd0 Sd0 (tNum_nil τ11) ?_
    rintro _ τ12 ⟨rfl, rfl⟩
    have hss : ((⟨s.data.toList.toArray⟩ : ByteArray).toList == s.toList) = true := by
      have : (⟨s.data.toList.toArray⟩ : ByteArray) = s := ba_ext rfl
      rw [this]; simp
    (have fx := And.intro t1 (And.intro hss g11); refine stepR ?_; clear fx)
    refine ml_call (have fx := And.intro hss t1; Sd) Sd0 (right_c W' H' S' τ12) ?_
    rintro _ τ13 ⟨rfl, e13⟩
    rw [hg]
    (have fx := hss; refine stepR ?_; clear fx)
    exact fin1 (have fx := hss; Sd)
  · refine stepR0 ?_
    refine ml_init (vs := mapC 0 0 ⟨#[]⟩) Sd0 Sd0 Sd0 rfl rfl rfl fun τ9 e9 g9 => ?_
    have he9 := he.of_ext e9
    refine stepR0 ?_
    refine ml_call Sd0 Sd0 (tNum_c hE he9.chain) ?_
    rintro _ τ10 ⟨rfl, e10⟩
    have g10 := e10.cells g9
    have he10 := he9.of_ext e10
    refine stepR0 ?_
    refine ml_call Sd0 Sd0 (tNum_c hE he10.chain) ?_
    rintro _ τ11 ⟨rfl, e11⟩
    have g11 := e11.cells g10
    (have fx := g11; refine stepR ?_; clear fx)
    refine ml_op Sd0 (o_eqA_same (W := 0) (Hh := 0) (S := ⟨#[]⟩) Sd0 Sd0) ?_
    refine stepR0 ?_
    exact fin1 Sd0
end Go.Proofs.YtepjinaomedecaaDoor
