/- Commands are told in decimal, one a line: TextTells answers true for every input. -/
import Derived.Test.YtepjinaomedecaaDoorRowC
import Derived.Test.YtepjinaomedecaaDoorRowT
import Derived.Test.YtepjinaomedecaaDoorRowS
import Derived.Test.YtepjinaomedecaaDoorTextL
namespace Go.Proofs.YtepjinaomedecaaDoor
open Go.Mini
open Go.ChangeShapes Go.WideShapes Go.ChangeAt Go.RowKit
set_option linter.unusedVariables false
set_option linter.ambiguousOpen false
set_option maxRecDepth 100000

theorem textTells_lifted (os : Os) (started : os.Started) (H : Type) (enc : TypeId × Value → H) :
    ReturnsInHanded {} Tryd.checked os 8 .any (fun w args => (Rows.textTellsSpec.pre enc Tryd.prog Tryd.f8 [] false w args ∧ laidMetH Tryd.prog Rows.textTellsRow.laid w) ∧ sizedMet enc Tryd.prog Tryd.f8 (OpenSpec.ofChange Rows.textTellsSpec) false w args)
      (Rows.textTellsSpec.post enc Tryd.prog Tryd.f8 false true false false) := by
  refine returnsInHanded_and_shaped (C := Tryd.checked) (X := fun w _ => laidMetH Tryd.prog Rows.textTellsRow.laid w) (fun _ _ _ hh h => h.of_heap hh) ownKnob_none started (by kernel_rfl) Tryd.func8
    (ChangeSpec.witness_shaped (enc := enc) (C := Tryd.checked) (os := os) (X := fun w _ => laidMetH Tryd.prog Rows.textTellsRow.laid w) false (laidAllH Tryd.prog os 0 (.iface 129 (.agg #[.pointer (some ⟨9, 26, none⟩)])) Rows.textTellsRow.laid) #[.slice none 0 0] 8 (laidAllH_os _ _ _ _ _)
      (World.shaped_of_ZipB (by kernel_rfl) (by kernel_rfl)) (by kernel_rfl) (by kernel_rfl) (by kernel_rfl)
      (laidMet_laidAllH _ (by kernel_rfl) (by kernel_rfl) (by kernel_rfl))) ?_
  intro W base args ds gs before hval0 hW hL hsh
  have hval : ∀ (j : Nat) t v, Tryd.f8.params[j]? = some t → args[j]? = some v → Value.okWide Tryd.prog W .any base t v := hval0
  have hW' := hW
  obtain ⟨p, q, hA0, hV, rfl, _, _⟩ := hW
  have hA : DataW.TrodAll enc Tryd.prog W 0 (fun _ => true) true Tryd.f8.params.toList args.toList ds p := hA0
  rw [Tryd.params8] at hA hval
  obtain ⟨v0, vs0, d0, ds0, p0, q0, hargs, rfl, rfl, h0, r0⟩ := trodAll_cons hA
  obtain ⟨rfl, rfl, rfl⟩ := trodAll_nil r0
  obtain rfl : args = #[v0] := by cases args; simp_all
  obtain ⟨rfl, rfl⟩ := trodVars_none hV
  have k0 := h0
  have lt0 : ∀ x ∈ p0, x.block < W.heap.size := by obtain ⟨m, hm⟩ := k0; exact DataW.trod_lt m _ _ _ hm
  have s0 := Sim.start W (fun _ => ⟨0, 0, 0, 0, true⟩)
  have a0_ := AllRo.empty
  obtain ⟨L0, w0, σ0, μ0, al0, sm0, vr0, rd0, ex0, ag0, ft0⟩ := sliceG_arg (ks := [.int .i64, .int .i64]) (by decide) Tryd.underlying51 Tryd.underlying54 (by kernel_rfl) (by kernel_rfl) (hval 0 51 v0 rfl rfl) h0 s0 a0_
  obtain ⟨ps0, rfl, ok0⟩ := fits_cmds ft0
  refine (calls_of_mcallsR (E := TextE) sm0 (.cons vr0 .nil) 0 rfl (textE_of (errType_of_laid (more := []) (by kernel_rfl) hL) hL hsh (by rfl) (List.mem_filter.2 ⟨by simp [Rows.textTellsRow], rfl⟩) (List.mem_filter.2 ⟨by simp [Rows.textTellsRow], rfl⟩)) (textTells_c (fun _ h => h) ok0 rd0)).mono fun e W' ⟨he, bel⟩ => ?_
  subst he
  exact ⟨_, rfl, _, _, _, [], _, [], hW', trodAll_mk1 (shut_bool Tryd.underlying4 _), (trodAll_cons_mk (Below.trod laidOut_all (by kernel_rfl) (of_decide_eq_true (by kernel_rfl)) k0 bel lt0) trodAll_mk0), rfl, bel.frame _, fun h => by cases h⟩

theorem textTells_holds : Rows.TextTellsSaid :=
  OpenClaim.holds_of_wide 8 Tryd.f8 rfl rfl rfl rfl rfl rfl rfl ⟨rfl, rfl, rfl, rfl, rfl⟩ rfl rfl rfl rfl rfl (by kernel_rfl) Tryd.func8 (by kernel_rfl)
    (of_decide_eq_true (by kernel_rfl)) (by unfold Func.isWrapper; first | (rw [if_pos (by decide +kernel)]; kernel_rfl) | (rw [if_neg (by decide +kernel)]; exact ⟨rfl, rfl⟩))
    (fun os started H enc _ => textTells_lifted os started H enc)

theorem textTells_card : Rows.TextTellsCardSaid :=
  Claim7.holds_tied_plain_at .later [] Rows.textTellsCard.laidKinds true Rows.textTellsCard.stood.harness true
    textTells_holds (fun _ h => by cases h) (by kernel_rfl) (fun _ h => by cases h) textTells_row_tie rfl ⟨rfl, rfl⟩ (by kernel_rfl) rfl
    (fun f fn hf hfn => by
      obtain rfl : f = 8 := Option.some.inj ((show Tryd.prog.funcNamed Rows.textTellsRow.func = some 8 by kernel_rfl).symm.trans hf) |>.symm
      obtain rfl : fn = Tryd.f8 := (Option.some.inj (Tryd.func8.symm.trans hfn)).symm
      exact ⟨by kernel_rfl, fun j t ht => by
        rw [Tryd.params8] at ht
        have hm : t ∈ [51] := by simpa using Array.mem_of_getElem? ht
        have hall : ([51].all fun u => !Tryd.prog.wantsStandIn u) = true := by kernel_rfl
        exact (show Tryd.prog.wantsStandIn t = false by simpa using List.all_eq_true.1 hall t hm)⟩)
    (by kernel_rfl)
#print axioms textTells_card
end Go.Proofs.YtepjinaomedecaaDoor
