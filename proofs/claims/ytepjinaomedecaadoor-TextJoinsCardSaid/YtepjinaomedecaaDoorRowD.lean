/- Slices of acts that come in. -/
import Derived.Test.YtepjinaomedecaaDoorRowG
import Derived.Test.YtepjinaomedecaaDoorRowT
import Derived.Test.YtepjinaomedecaaDoorTextM
namespace Go.Proofs.YtepjinaomedecaaDoor
open Go.Mini
theorem fits_acts : ∀ {L : List (List Value)}, (∀ l ∈ L, Fits [.str, .int .i64, .int .i64, .int .i64] l) → ∃ ps : List Act4, L = ps.map acC ∧ ∀ p ∈ ps, ActOK p
  | [], _ => ⟨[], rfl, fun _ h => (by cases h)⟩
  | l :: L, h => by
    obtain ⟨ps, rfl, hok⟩ := fits_acts (L := L) fun l hl => h l (by simp [hl])
    obtain ⟨nm, a, b, c, rfl, _, ha, hb, hc⟩ := fits_act (h l (by simp))
    exact ⟨(nm, a, b, c) :: ps, rfl, fun p hp => by
      rcases List.mem_cons.1 hp with rfl | hp
      · exact ⟨ha, hb, hc⟩
      · exact hok p hp⟩
end Go.Proofs.YtepjinaomedecaaDoor
