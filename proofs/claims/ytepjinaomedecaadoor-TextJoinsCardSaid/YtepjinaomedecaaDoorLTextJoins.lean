/- Requests' texts, one behind the other, are read as the acts of both: TextJoins answers true for every input. -/
import Derived.Test.YtepjinaomedecaaDoorRowD
import Derived.Test.YtepjinaomedecaaDoorRowT
import Derived.Test.YtepjinaomedecaaDoorRowS
import Derived.Test.YtepjinaomedecaaDoorTextM
namespace Go.Proofs.YtepjinaomedecaaDoor
open Go.Mini
open Go.ChangeShapes Go.WideShapes Go.ChangeAt Go.RowKit
set_option linter.unusedVariables false
set_option linter.ambiguousOpen false
set_option maxRecDepth 100000

theorem textJoins_lifted (os : Os) (started : os.Started) (H : Type) (enc : TypeId × Value → H) :
    ReturnsInHanded {} Tryd.checked os 10 .any (fun w args => (Rows.textJoinsSpec.pre enc Tryd.prog Tryd.f10 [] false w args ∧ laidMetH Tryd.prog Rows.textJoinsRow.laid w) ∧ sizedMet enc Tryd.prog Tryd.f10 (OpenSpec.ofChange Rows.textJoinsSpec) false w args)
      (Rows.textJoinsSpec.post enc Tryd.prog Tryd.f10 false true false false) := by
  refine returnsInHanded_and_shaped (C := Tryd.checked) (X := fun w _ => laidMetH Tryd.prog Rows.textJoinsRow.laid w) (fun _ _ _ hh h => h.of_heap hh) ownKnob_none started (by kernel_rfl) Tryd.func10
    (ChangeSpec.witness_shaped (enc := enc) (C := Tryd.checked) (os := os) (X := fun w _ => laidMetH Tryd.prog Rows.textJoinsRow.laid w) false (laidAllH Tryd.prog os 0 (.iface 129 (.agg #[.pointer (some ⟨9, 26, none⟩)])) Rows.textJoinsRow.laid) #[.slice none 0 0, .slice none 0 0] 8 (laidAllH_os _ _ _ _ _)
      (World.shaped_of_ZipB (by kernel_rfl) (by kernel_rfl)) (by kernel_rfl) (by kernel_rfl) (by kernel_rfl)
      (laidMet_laidAllH _ (by kernel_rfl) (by kernel_rfl) (by kernel_rfl))) ?_
  intro W base args ds gs before hval0 hW hL hsh
  have hval : ∀ (j : Nat) t v, Tryd.f10.params[j]? = some t → args[j]? = some v → Value.okWide Tryd.prog W .any base t v := hval0
  have hW' := hW
  obtain ⟨p, q, hA0, hV, rfl, _, _⟩ := hW
  have hA : DataW.TrodAll enc Tryd.prog W 0 (fun _ => true) true Tryd.f10.params.toList args.toList ds p := hA0
  rw [Tryd.params10] at hA hval
  obtain ⟨v0, vs0, d0, ds0, p0, q0, hargs, rfl, rfl, h0, r0⟩ := trodAll_cons hA
  obtain ⟨v1, vs1, d1, ds1, p1, q1, rfl, rfl, rfl, h1, r1⟩ := trodAll_cons r0
  obtain ⟨rfl, rfl, rfl⟩ := trodAll_nil r1
  obtain rfl : args = #[v0, v1] := by cases args; simp_all
  obtain ⟨rfl, rfl⟩ := trodVars_none hV
  have k0 := h0
  have lt0 : ∀ x ∈ p0, x.block < W.heap.size := by obtain ⟨m, hm⟩ := k0; exact DataW.trod_lt m _ _ _ hm
  have k1 := h1
  have lt1 : ∀ x ∈ p1, x.block < W.heap.size := by obtain ⟨m, hm⟩ := k1; exact DataW.trod_lt m _ _ _ hm
  have s0 := Sim.start W (fun _ => ⟨0, 0, 0, 0, true⟩)
  have a0_ := AllRo.empty
  obtain ⟨L0, w0, σ0, μ0, al0, sm0, vr0, rd0, ex0, ag0, ft0⟩ := sliceG_arg (ks := [.str, .int .i64, .int .i64, .int .i64]) (by decide) Tryd.underlying61 Tryd.underlying41 (by kernel_rfl) (by kernel_rfl) (hval 0 61 v0 rfl rfl) h0 s0 a0_
  obtain ⟨ps0, rfl, ok0⟩ := fits_acts ft0
  obtain ⟨L1, w1, σ1, μ1, al1, sm1, vr1, rd1, ex1, ag1, ft1⟩ := sliceG_arg (ks := [.str, .int .i64, .int .i64, .int .i64]) (by decide) Tryd.underlying61 Tryd.underlying41 (by kernel_rfl) (by kernel_rfl) (hval 1 61 v1 rfl rfl) h1 sm0 al0
  obtain ⟨ps1, rfl, ok1⟩ := fits_acts ft1
  refine (calls_of_mcallsR (E := TextE) sm1 (.cons (vr0.mono ex1.size ag1) (.cons vr1 .nil)) 0 rfl (textE_of (errType_of_laid (more := []) (by kernel_rfl) hL) hL hsh (by rfl) (List.mem_filter.2 ⟨by simp [Rows.textJoinsRow], rfl⟩) (List.mem_filter.2 ⟨by simp [Rows.textJoinsRow], rfl⟩)) (textJoins_c (fun _ h => h) ok0 ok1 (rd0.of_ext ex1) rd1)).mono fun e W' ⟨he, bel⟩ => ?_
  subst he
  exact ⟨_, rfl, _, _, _, [], _, [], hW', trodAll_mk1 (shut_bool Tryd.underlying4 _), (trodAll_cons_mk (Below.trod laidOut_all (by kernel_rfl) (of_decide_eq_true (by kernel_rfl)) k0 bel lt0) (trodAll_cons_mk (Below.trod laidOut_all (by kernel_rfl) (of_decide_eq_true (by kernel_rfl)) k1 bel lt1) trodAll_mk0)), rfl, bel.frame _, fun h => by cases h⟩

theorem textJoins_holds : Rows.TextJoinsSaid :=
  OpenClaim.holds_of_wide 10 Tryd.f10 rfl rfl rfl rfl rfl rfl rfl ⟨rfl, rfl, rfl, rfl, rfl⟩ rfl rfl rfl rfl rfl (by kernel_rfl) Tryd.func10 (by kernel_rfl)
    (of_decide_eq_true (by kernel_rfl)) (by unfold Func.isWrapper; first | (rw [if_pos (by decide +kernel)]; kernel_rfl) | (rw [if_neg (by decide +kernel)]; exact ⟨rfl, rfl⟩))
    (fun os started H enc _ => textJoins_lifted os started H enc)

theorem textJoins_card : Rows.TextJoinsCardSaid :=
  Claim7.holds_tied_plain_at .later [] Rows.textJoinsCard.laidKinds true Rows.textJoinsCard.stood.harness true
    textJoins_holds (fun _ h => by cases h) (by kernel_rfl) (fun _ h => by cases h) textJoins_row_tie rfl ⟨rfl, rfl⟩ (by kernel_rfl) rfl
    (fun f fn hf hfn => by
      obtain rfl : f = 10 := Option.some.inj ((show Tryd.prog.funcNamed Rows.textJoinsRow.func = some 10 by kernel_rfl).symm.trans hf) |>.symm
      obtain rfl : fn = Tryd.f10 := (Option.some.inj (Tryd.func10.symm.trans hfn)).symm
      exact ⟨by kernel_rfl, fun j t ht => by
        rw [Tryd.params10] at ht
        have hm : t ∈ [61, 61] := by simpa using Array.mem_of_getElem? ht
        have hall : ([61, 61].all fun u => !Tryd.prog.wantsStandIn u) = true := by kernel_rfl
        exact (show Tryd.prog.wantsStandIn t = false by simpa using List.all_eq_true.1 hall t hm)⟩)
    (by kernel_rfl)
#print axioms textJoins_card
end Go.Proofs.YtepjinaomedecaaDoor
