import Derived.Test.YtgfmphjccnemmaaDoorSafeC
import Derived.Test.YtgfmphjccnemmaaDoorRefD
namespace Go.Proofs.YtgfmphjccnemmaaDoor
open Go.Mini
open Go.Proofs.YtgfmphjccnemmaaDoor.Code
set_option linter.unusedVariables false
set_option linter.unusedSimpArgs false
set_option linter.ambiguousOpen false
attribute [local irreducible] mx ml mld mstep MCalls Ex.thn Ex.inb

theorem gOf_c (W Hh : Int) (S : ByteArray) (σ : H) : MCalls Tryd.prog 17 [mapV W Hh S] σ (fun v τ => v = mapV W Hh S ∧ Ext σ τ) := by
  refine mcalls_of fn17 (by simp) ?_
  unfold c17 r17 mapV
  refine stepR0 ?_
  generalize hτ : H.push σ _ = τ
  have gm : τ.get σ.size = .cells 0 (mapC W Hh S) := by rw [← hτ]; exact H.get_push_self _ _
  have e1 : Ext σ τ := hτ ▸ Ext.push _ _
  have e2 := Ext.push τ (.cells 0 [.int .i64 0, .int .i64 0, .string ⟨#[]⟩])
  have g2 := e2.cells gm
  have hs : σ.size + 1 = τ.size := by rw [← hτ]; rfl
  clear hτ
  (have fx := g2; refine stepR ?_; clear fx)
  refine ml_init (vs := mapC W Hh S) Sd0 (have fx := hs; Sd) Sd0 rfl rfl rfl fun τ3 e3 g3 => ?_
  refine stepR0 ?_
  refine finC (id := τ.size) (vs := mapC W Hh S) (have fx := hs; Sd) (row_of g3 rfl) ⟨rfl, e1.trans e3⟩

/-! ## The document's example -/
def exS : ByteArray := ⟨#[46, 67]⟩
theorem ex_near : nearL 2 exS 1 = [0] := by decide +kernel
theorem ex_opn : ∀ x, opn exS x = true → x = 0 ∨ x = 1 := fun x h => by have := opn_lt h; have : exS.size = 2 := rfl; omega
theorem ex_gr : gr 2 1 exS = true := by
  rw [gr_iff]
  have h1 : Lib.indexByte exS.data.toList 67 = 1 := by decide +kernel
  refine ⟨by decide +kernel, by rw [h1]; omega, fun x hx => ?_⟩
  rw [h1]
  rcases ex_opn x hx with rfl | rfl
  · exact .step .here (by rw [ex_near]; simp)
  · exact .here
theorem ex_dist (src : List Int) (h : src = [1]) : dist 2 exS src 0 = some 1 := by
  subst h
  refine dist_eq (.step (y := 1) (.src (by simp) (by decide +kernel)) (by rw [ex_near]; simp)) fun j hj => ?_
  cases hj with
  | src h => simp at h
  | step _ _ => omega
theorem ex_on : onL exS (List.replicate 8 0) true = [1] := by decide +kernel
theorem ex_need : needO 2 1 exS (onL exS (List.replicate 8 0) (gr 2 1 exS)) 2 0 = some 2 := by
  rw [ex_gr, ex_on]
  unfold needO costOK
  rw [ex_gr, ex_dist _ rfl]
  have : opn exS 0 = true := by decide +kernel
  rw [this]; rfl

theorem sAwake_c (σ : H) : MCalls Tryd.prog 15 [] σ (fun v τ => v = .bool true ∧ Ext σ τ) := by
  refine mcalls_of fn15 (by simp) ?_
  unfold c15 r15
  refine stepR0 ?_
  refine ml_init (vs := mapC 2 1 exS) Sd0 Sd0 Sd0 rfl rfl rfl fun τ e1 g1 => ?_
  (have fx := g1; refine stepR ?_; clear fx)
  refine mld_call Sd0 Sd0 (on_c (σ := τ) 2 1 exS (o := List.replicate 8 0) rfl (by simp)) (fun _ _ h => h.2) ?_
  rintro ov τ2 ⟨rd, e2⟩
  refine stepR0 ?_
  refine mld_callW Sd0 Sd0 (need_c 2 1 exS rd 0 2) ?_
  rw [ex_need]
  rintro _ τ3 ⟨rfl, e3⟩
  refine stepR0 ?_
  exact fin1 ⟨Sd0, e1.trans (e2.trans e3)⟩
end Go.Proofs.YtgfmphjccnemmaaDoor
