/-
  DERIVED. GIVEN WITH THE SEED: THE CARDS: each row of YtgfmphjccnemmaaDoorRows.lean that lists a variable, with what it lists TIED to the program's text (the seventh form; the later family's looks); each row that meets fmt, with fmt's text TOLD by the authors' own Lean function (tested against real Go, not proved from fmt's source: count such statements apart). THE CARD IS WHAT COUNTS. Prove the row's statement (the work); the ties are given (YtgfmphjccnemmaaDoorTie.lean); close each card by the builder's one call (the guide's Derived/Test/ToyasCard.lean, 'card_holds'). Laid BY PROGRAM, IN A SANDBOX (cutbox-door.mjs). By AI agents, Wed Nov 11 2026. No macro, syntax, notation, axiom, sorry.
-/
import Derived.Test.YtgfmphjccnemmaaDoorRows
import GoSem.ClaimSeven
namespace Go.Proofs.YtgfmphjccnemmaaDoor
namespace Rows

/-- THE TIED CARD OF 'dynamolaw21.SafeMore'. -/
def safeMoreCard : Claim7 := { stood := { row := safeMoreRow, standIns := [], harness := (true, "3e8fa9ac805717c17ef73cedfed0caa65fceaabd4c7b9724c2fcd09495e356cb"), looks := true }, kinds := [], alts := [], laidByText := true, laidKinds := [.data, .pinned], laidTests := true, laidLooks := .later }
def SafeMoreCardSaid : Prop := Claim7.holds Tryd.pinned (.plain (OpenSpec.ofChange safeMoreSpec)) safeMoreCard

/-- THE TIED CARD OF 'dynamolaw21.SafeOns'. -/
def safeOnsCard : Claim7 := { stood := { row := safeOnsRow, standIns := [], harness := (true, "3e8fa9ac805717c17ef73cedfed0caa65fceaabd4c7b9724c2fcd09495e356cb"), looks := true }, kinds := [], alts := [], laidByText := true, laidKinds := [.data, .pinned], laidTests := true, laidLooks := .later }
def SafeOnsCardSaid : Prop := Claim7.holds Tryd.pinned (.plain (OpenSpec.ofChange safeOnsSpec)) safeOnsCard

/-- THE TIED CARD OF 'dynamolaw21.SafeTurns'. -/
def safeTurnsCard : Claim7 := { stood := { row := safeTurnsRow, standIns := [], harness := (true, "3e8fa9ac805717c17ef73cedfed0caa65fceaabd4c7b9724c2fcd09495e356cb"), looks := true }, kinds := [], alts := [], laidByText := true, laidKinds := [.data, .pinned], laidTests := true, laidLooks := .later }
def SafeTurnsCardSaid : Prop := Claim7.holds Tryd.pinned (.plain (OpenSpec.ofChange safeTurnsSpec)) safeTurnsCard

/-- THE TIED CARD OF 'dynamolaw21.SafeHere'. -/
def safeHereCard : Claim7 := { stood := { row := safeHereRow, standIns := [], harness := (true, "3e8fa9ac805717c17ef73cedfed0caa65fceaabd4c7b9724c2fcd09495e356cb"), looks := true }, kinds := [], alts := [], laidByText := true, laidKinds := [.data, .pinned], laidTests := true, laidLooks := .later }
def SafeHereCardSaid : Prop := Claim7.holds Tryd.pinned (.plain (OpenSpec.ofChange safeHereSpec)) safeHereCard

/-- THE TIED CARD OF 'dynamolaw21.SafeNeeds'. -/
def safeNeedsCard : Claim7 := { stood := { row := safeNeedsRow, standIns := [], harness := (true, "3e8fa9ac805717c17ef73cedfed0caa65fceaabd4c7b9724c2fcd09495e356cb"), looks := true }, kinds := [], alts := [], laidByText := true, laidKinds := [.data, .pinned], laidTests := true, laidLooks := .later }
def SafeNeedsCardSaid : Prop := Claim7.holds Tryd.pinned (.plain (OpenSpec.ofChange safeNeedsSpec)) safeNeedsCard

/-- THE TIED CARD OF 'dynamolaw21.SafeGoes'. -/
def safeGoesCard : Claim7 := { stood := { row := safeGoesRow, standIns := [], harness := (true, "3e8fa9ac805717c17ef73cedfed0caa65fceaabd4c7b9724c2fcd09495e356cb"), looks := true }, kinds := [], alts := [], laidByText := true, laidKinds := [.data, .pinned], laidTests := true, laidLooks := .later }
def SafeGoesCardSaid : Prop := Claim7.holds Tryd.pinned (.plain (OpenSpec.ofChange safeGoesSpec)) safeGoesCard

/-- THE TIED CARD OF 'dynamolaw14.GridMirrors'. -/
def gridMirrorsCard : Claim7 := { stood := { row := gridMirrorsRow, standIns := [], harness := (true, "3e8fa9ac805717c17ef73cedfed0caa65fceaabd4c7b9724c2fcd09495e356cb"), looks := true }, kinds := [], alts := [], laidByText := true, laidKinds := [.data, .handle, .pinned], laidTests := true, laidLooks := .later }
def GridMirrorsCardSaid : Prop := Claim7.holds Tryd.pinned (.plain (OpenSpec.ofChange gridMirrorsSpec)) gridMirrorsCard

/-- THE TIED CARD OF 'dynamolaw14.GridNearest'. -/
def gridNearestCard : Claim7 := { stood := { row := gridNearestRow, standIns := [], harness := (true, "3e8fa9ac805717c17ef73cedfed0caa65fceaabd4c7b9724c2fcd09495e356cb"), looks := true }, kinds := [], alts := [], laidByText := true, laidKinds := [.data, .handle, .pinned], laidTests := true, laidLooks := .later }
def GridNearestCardSaid : Prop := Claim7.holds Tryd.pinned (.plain (OpenSpec.ofChange gridNearestSpec)) gridNearestCard

/-- THE TIED CARD OF 'dynamolaw14.GridKinds'. -/
def gridKindsCard : Claim7 := { stood := { row := gridKindsRow, standIns := [], harness := (true, "3e8fa9ac805717c17ef73cedfed0caa65fceaabd4c7b9724c2fcd09495e356cb"), looks := true }, kinds := [], alts := [], laidByText := true, laidKinds := [.data, .handle, .pinned], laidTests := true, laidLooks := .later }
def GridKindsCardSaid : Prop := Claim7.holds Tryd.pinned (.plain (OpenSpec.ofChange gridKindsSpec)) gridKindsCard

/-- THE TIED CARD OF 'dynamolaw14.GridNears'. -/
def gridNearsCard : Claim7 := { stood := { row := gridNearsRow, standIns := [], harness := (true, "3e8fa9ac805717c17ef73cedfed0caa65fceaabd4c7b9724c2fcd09495e356cb"), looks := true }, kinds := [], alts := [], laidByText := true, laidKinds := [.data, .handle, .pinned], laidTests := true, laidLooks := .later }
def GridNearsCardSaid : Prop := Claim7.holds Tryd.pinned (.plain (OpenSpec.ofChange gridNearsSpec)) gridNearsCard

/-- THE TIED CARD OF 'dynamolaw14.GridBack'. -/
def gridBackCard : Claim7 := { stood := { row := gridBackRow, standIns := [], harness := (true, "3e8fa9ac805717c17ef73cedfed0caa65fceaabd4c7b9724c2fcd09495e356cb"), looks := true }, kinds := [], alts := [], laidByText := true, laidKinds := [.data, .handle, .pinned], laidTests := true, laidLooks := .later }
def GridBackCardSaid : Prop := Claim7.holds Tryd.pinned (.plain (OpenSpec.ofChange gridBackSpec)) gridBackCard

/-- THE TIED CARD OF 'dynamolaw14.GridPlays'. -/
def gridPlaysCard : Claim7 := { stood := { row := gridPlaysRow, standIns := [], harness := (true, "3e8fa9ac805717c17ef73cedfed0caa65fceaabd4c7b9724c2fcd09495e356cb"), looks := true }, kinds := [], alts := [], laidByText := true, laidKinds := [.data, .handle, .pinned], laidTests := true, laidLooks := .later }
def GridPlaysCardSaid : Prop := Claim7.holds Tryd.pinned (.plain (OpenSpec.ofChange gridPlaysSpec)) gridPlaysCard

/-- THE SECOND FORM's CARD OF 'dynamolaw21.SafeMore'. -/
def safeMoreUptoCard : Claim7 := { stood := { row := safeMoreUptoRow, standIns := [], harness := (true, "3e8fa9ac805717c17ef73cedfed0caa65fceaabd4c7b9724c2fcd09495e356cb"), looks := true }, kinds := [], alts := [], laidByText := true, laidKinds := [.data, .pinned], laidTests := true, laidLooks := .later }
def SafeMoreUptoCardSaid : Prop := Claim7.holds Tryd.pinned (.plain (OpenSpec.upto safeMoreSpec)) safeMoreUptoCard

/-- THE SECOND FORM's CARD OF 'dynamolaw21.SafeOns'. -/
def safeOnsUptoCard : Claim7 := { stood := { row := safeOnsUptoRow, standIns := [], harness := (true, "3e8fa9ac805717c17ef73cedfed0caa65fceaabd4c7b9724c2fcd09495e356cb"), looks := true }, kinds := [], alts := [], laidByText := true, laidKinds := [.data, .pinned], laidTests := true, laidLooks := .later }
def SafeOnsUptoCardSaid : Prop := Claim7.holds Tryd.pinned (.plain (OpenSpec.upto safeOnsSpec)) safeOnsUptoCard

/-- THE SECOND FORM's CARD OF 'dynamolaw21.SafeTurns'. -/
def safeTurnsUptoCard : Claim7 := { stood := { row := safeTurnsUptoRow, standIns := [], harness := (true, "3e8fa9ac805717c17ef73cedfed0caa65fceaabd4c7b9724c2fcd09495e356cb"), looks := true }, kinds := [], alts := [], laidByText := true, laidKinds := [.data, .pinned], laidTests := true, laidLooks := .later }
def SafeTurnsUptoCardSaid : Prop := Claim7.holds Tryd.pinned (.plain (OpenSpec.upto safeTurnsSpec)) safeTurnsUptoCard

/-- THE SECOND FORM's CARD OF 'dynamolaw21.SafeHere'. -/
def safeHereUptoCard : Claim7 := { stood := { row := safeHereUptoRow, standIns := [], harness := (true, "3e8fa9ac805717c17ef73cedfed0caa65fceaabd4c7b9724c2fcd09495e356cb"), looks := true }, kinds := [], alts := [], laidByText := true, laidKinds := [.data, .pinned], laidTests := true, laidLooks := .later }
def SafeHereUptoCardSaid : Prop := Claim7.holds Tryd.pinned (.plain (OpenSpec.upto safeHereSpec)) safeHereUptoCard

/-- THE SECOND FORM's CARD OF 'dynamolaw21.SafeNeeds'. -/
def safeNeedsUptoCard : Claim7 := { stood := { row := safeNeedsUptoRow, standIns := [], harness := (true, "3e8fa9ac805717c17ef73cedfed0caa65fceaabd4c7b9724c2fcd09495e356cb"), looks := true }, kinds := [], alts := [], laidByText := true, laidKinds := [.data, .pinned], laidTests := true, laidLooks := .later }
def SafeNeedsUptoCardSaid : Prop := Claim7.holds Tryd.pinned (.plain (OpenSpec.upto safeNeedsSpec)) safeNeedsUptoCard

/-- THE SECOND FORM's CARD OF 'dynamolaw21.SafeGoes'. -/
def safeGoesUptoCard : Claim7 := { stood := { row := safeGoesUptoRow, standIns := [], harness := (true, "3e8fa9ac805717c17ef73cedfed0caa65fceaabd4c7b9724c2fcd09495e356cb"), looks := true }, kinds := [], alts := [], laidByText := true, laidKinds := [.data, .pinned], laidTests := true, laidLooks := .later }
def SafeGoesUptoCardSaid : Prop := Claim7.holds Tryd.pinned (.plain (OpenSpec.upto safeGoesSpec)) safeGoesUptoCard

/-- THE SECOND FORM's CARD OF 'dynamolaw14.GridMirrors'. -/
def gridMirrorsUptoCard : Claim7 := { stood := { row := gridMirrorsUptoRow, standIns := [], harness := (true, "3e8fa9ac805717c17ef73cedfed0caa65fceaabd4c7b9724c2fcd09495e356cb"), looks := true }, kinds := [], alts := [], laidByText := true, laidKinds := [.data, .handle, .pinned], laidTests := true, laidLooks := .later }
def GridMirrorsUptoCardSaid : Prop := Claim7.holds Tryd.pinned (.plain (OpenSpec.upto gridMirrorsSpec)) gridMirrorsUptoCard

/-- THE SECOND FORM's CARD OF 'dynamolaw14.GridNearest'. -/
def gridNearestUptoCard : Claim7 := { stood := { row := gridNearestUptoRow, standIns := [], harness := (true, "3e8fa9ac805717c17ef73cedfed0caa65fceaabd4c7b9724c2fcd09495e356cb"), looks := true }, kinds := [], alts := [], laidByText := true, laidKinds := [.data, .handle, .pinned], laidTests := true, laidLooks := .later }
def GridNearestUptoCardSaid : Prop := Claim7.holds Tryd.pinned (.plain (OpenSpec.upto gridNearestSpec)) gridNearestUptoCard

/-- THE SECOND FORM's CARD OF 'dynamolaw14.GridKinds'. -/
def gridKindsUptoCard : Claim7 := { stood := { row := gridKindsUptoRow, standIns := [], harness := (true, "3e8fa9ac805717c17ef73cedfed0caa65fceaabd4c7b9724c2fcd09495e356cb"), looks := true }, kinds := [], alts := [], laidByText := true, laidKinds := [.data, .handle, .pinned], laidTests := true, laidLooks := .later }
def GridKindsUptoCardSaid : Prop := Claim7.holds Tryd.pinned (.plain (OpenSpec.upto gridKindsSpec)) gridKindsUptoCard

/-- THE SECOND FORM's CARD OF 'dynamolaw14.GridNears'. -/
def gridNearsUptoCard : Claim7 := { stood := { row := gridNearsUptoRow, standIns := [], harness := (true, "3e8fa9ac805717c17ef73cedfed0caa65fceaabd4c7b9724c2fcd09495e356cb"), looks := true }, kinds := [], alts := [], laidByText := true, laidKinds := [.data, .handle, .pinned], laidTests := true, laidLooks := .later }
def GridNearsUptoCardSaid : Prop := Claim7.holds Tryd.pinned (.plain (OpenSpec.upto gridNearsSpec)) gridNearsUptoCard

/-- THE SECOND FORM's CARD OF 'dynamolaw14.GridBack'. -/
def gridBackUptoCard : Claim7 := { stood := { row := gridBackUptoRow, standIns := [], harness := (true, "3e8fa9ac805717c17ef73cedfed0caa65fceaabd4c7b9724c2fcd09495e356cb"), looks := true }, kinds := [], alts := [], laidByText := true, laidKinds := [.data, .handle, .pinned], laidTests := true, laidLooks := .later }
def GridBackUptoCardSaid : Prop := Claim7.holds Tryd.pinned (.plain (OpenSpec.upto gridBackSpec)) gridBackUptoCard

/-- THE SECOND FORM's CARD OF 'dynamolaw14.GridPlays'. -/
def gridPlaysUptoCard : Claim7 := { stood := { row := gridPlaysUptoRow, standIns := [], harness := (true, "3e8fa9ac805717c17ef73cedfed0caa65fceaabd4c7b9724c2fcd09495e356cb"), looks := true }, kinds := [], alts := [], laidByText := true, laidKinds := [.data, .handle, .pinned], laidTests := true, laidLooks := .later }
def GridPlaysUptoCardSaid : Prop := Claim7.holds Tryd.pinned (.plain (OpenSpec.upto gridPlaysSpec)) gridPlaysUptoCard
end Rows
end Go.Proofs.YtgfmphjccnemmaaDoor
