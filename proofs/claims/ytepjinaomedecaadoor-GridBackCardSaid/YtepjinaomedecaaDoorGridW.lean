/- The grid's example. -/
import Derived.Test.YtepjinaomedecaaDoorGridT
namespace Go.Proofs.YtepjinaomedecaaDoor
open Go.Mini
open Go.Proofs.YtepjinaomedecaaDoor.Code
set_option linter.unusedVariables false
set_option linter.unusedSimpArgs false
set_option linter.ambiguousOpen false
attribute [local irreducible] mx ml mld mstep MCalls Ex.thn Ex.inb
variable {E : World → Prop}

theorem parsed_ex {W Hh : Int} {S : ByteArray} (h : Parsed [46, 67, 10] W Hh S) : W = 2 ∧ Hh = 1 ∧ S = ⟨#[46, 67]⟩ := by
  obtain ⟨_, rows, h1, h2, h3, h4⟩ := h
  have e : flatR [[46, 67]] ++ [] = flatR rows := by rw [← h1]; rfl
  obtain ⟨more, rfl, hm⟩ := flatR_pre (by simp) (fun r hr => (h2 r hr).1) e
  have := flatR_nil hm.symm
  subst this
  have h5 := (h2 [46, 67] (by simp)).2
  simp at h3 h4 h5
  refine ⟨h5.symm, h3.symm, ?_⟩
  cases S; simp at h4; congr 1; exact Array.ext' h4
theorem parsed_ex' : Parsed [46, 67, 10] 2 1 ⟨#[46, 67]⟩ := ⟨gr21, [[46, 67]], rfl, by simp, rfl, rfl⟩
theorem gAwake_c (σ : H) : MCalls E Tryd.prog 11 [] σ (fun v τ => v = .bool true ∧ Ext σ τ) := by
  refine mcalls_of fn11 (by simp) ?_
  unfold c11 r11
  refine stepR0 ?_
  refine ml_call Sd0 Sd0 (gParse_c ⟨#[46, 67, 10]⟩ (by decide) σ) ?_
  rintro _ τ ⟨e1, ⟨W, Hh, S, rfl, hp⟩ | ⟨ev, _, _, hno⟩⟩
  · obtain ⟨rfl, rfl, rfl⟩ := parsed_ex hp
    refine stepR0 ?_
    refine ml_init (vs := mapC 2 1 ⟨#[46, 67]⟩) Sd0 Sd0 Sd0 rfl rfl rfl fun τ2 e2 g2 => ?_
    refine stepR0 ?_
    refine ml_call Sd0 Sd0 (tNum_nil τ2) ?_
    rintro _ τ3 ⟨rfl, rfl⟩
    (have fx := g2; refine stepR ?_; clear fx)
    refine ml_call Sd0 Sd0 (gopen_c 2 1 ⟨#[46, 67]⟩ 0 τ3) ?_
    rintro _ τ4 ⟨rfl, e4⟩
    rw [gr21, show opn ⟨#[46, 67]⟩ 0 = true by decide +kernel]
    refine stepR0 ?_
    exact fin1 ⟨Sd0, e1.trans (e2.trans e4)⟩
  · exact absurd parsed_ex' (hno _ _ _)

end Go.Proofs.YtepjinaomedecaaDoor
