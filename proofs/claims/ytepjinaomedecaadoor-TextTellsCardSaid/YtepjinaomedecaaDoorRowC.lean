/- Slices of commands and of acts that come in. -/
import Derived.Test.YtepjinaomedecaaDoorRowG
import Derived.Test.YtepjinaomedecaaDoorRowT
import Derived.Test.YtepjinaomedecaaDoorTextL
namespace Go.Proofs.YtepjinaomedecaaDoor
open Go.Mini
theorem fits_cmds : ∀ {L : List (List Value)}, (∀ l ∈ L, Fits [.int .i64, .int .i64] l) → ∃ ps : List Cmd, L = ps.map cmdC ∧ ∀ p ∈ ps, CmdOK p
  | [], _ => ⟨[], rfl, fun _ h => (by cases h)⟩
  | l :: L, h => by
    obtain ⟨ps, rfl, hok⟩ := fits_cmds (L := L) fun l hl => h l (by simp [hl])
    have h1 := h l (by simp)
    cases h1 with
    | cons a hs => cases hs with
      | cons b hs => cases hs with
        | nil =>
          obtain ⟨a, rfl, a1, a2⟩ := a
          obtain ⟨b, rfl, b1, b2⟩ := b
          exact ⟨(a, b) :: ps, rfl, fun p hp => by
            rcases List.mem_cons.1 hp with rfl | hp
            · exact ⟨⟨a1, a2⟩, ⟨b1, b2⟩⟩
            · exact hok p hp⟩
end Go.Proofs.YtepjinaomedecaaDoor
