/-
  DERIVED. GIVEN WITH THE SEED: THE CARDS: each row of YtoejdgoicoaomaaGreatDoorRows.lean that lists a variable, with what it lists TIED to the program's text (the seventh form; the later family's looks); each row that meets fmt, with fmt's text TOLD by the authors' own Lean function (tested against real Go, not proved from fmt's source: count such statements apart). THE CARD IS WHAT COUNTS. Prove the row's statement (the work); the ties are given (YtoejdgoicoaomaaGreatDoorTie.lean); close each card by the builder's one call (the guide's Derived/Test/ToyasCard.lean, 'card_holds'). Laid BY PROGRAM, IN A SANDBOX (cutbox-door.mjs). By AI agents, Wed Nov 11 2026. No macro, syntax, notation, axiom, sorry.
-/
import Derived.Test.YtoejdgoicoaomaaGreatDoorRows
import GoSem.ClaimSeven
namespace Go.Proofs.YtoejdgoicoaomaaGreatDoor
namespace Rows

/-- THE TIED CARD OF 'dynamolaw23.ModelRight'. -/
def modelRightCard : Claim7 := { stood := { row := modelRightRow, standIns := [], harness := (true, "14d17d86ab68362215c12e5bf2aa8374b0b4d1d03fdb1ee65664cde7a2bf99bf"), looks := true }, kinds := [], alts := [], laidByText := true, laidKinds := [.data, .handle, .pinned], laidTests := true, laidLooks := .later }
def ModelRightCardSaid : Prop := Claim7.holds Tryz.pinned (.plain (OpenSpec.ofChange modelRightSpec)) modelRightCard

/-- THE TIED CARD OF 'dynamolaw23.ModelSafe'. -/
def modelSafeCard : Claim7 := { stood := { row := modelSafeRow, standIns := [], harness := (true, "14d17d86ab68362215c12e5bf2aa8374b0b4d1d03fdb1ee65664cde7a2bf99bf"), looks := true }, kinds := [], alts := [], laidByText := true, laidKinds := [.data, .handle, .pinned], laidTests := true, laidLooks := .later }
def ModelSafeCardSaid : Prop := Claim7.holds Tryz.pinned (.plain (OpenSpec.ofChange modelSafeSpec)) modelSafeCard

/-- THE TIED CARD OF 'dynamolaw23.ModelSums'. -/
def modelSumsCard : Claim7 := { stood := { row := modelSumsRow, standIns := [], harness := (true, "14d17d86ab68362215c12e5bf2aa8374b0b4d1d03fdb1ee65664cde7a2bf99bf"), looks := true }, kinds := [], alts := [], laidByText := true, laidKinds := [.data, .handle, .pinned], laidTests := true, laidLooks := .later }
def ModelSumsCardSaid : Prop := Claim7.holds Tryz.pinned (.plain (OpenSpec.ofChange modelSumsSpec)) modelSumsCard

/-- THE TIED CARD OF 'dynamolaw23.ModelTasks'. -/
def modelTasksCard : Claim7 := { stood := { row := modelTasksRow, standIns := [], harness := (true, "14d17d86ab68362215c12e5bf2aa8374b0b4d1d03fdb1ee65664cde7a2bf99bf"), looks := true }, kinds := [], alts := [], laidByText := true, laidKinds := [.data, .handle, .pinned], laidTests := true, laidLooks := .later }
def ModelTasksCardSaid : Prop := Claim7.holds Tryz.pinned (.plain (OpenSpec.ofChange modelTasksSpec)) modelTasksCard

/-- THE TIED CARD OF 'dynamolaw23.ModelAlone'. -/
def modelAloneCard : Claim7 := { stood := { row := modelAloneRow, standIns := [], harness := (true, "14d17d86ab68362215c12e5bf2aa8374b0b4d1d03fdb1ee65664cde7a2bf99bf"), looks := true }, kinds := [], alts := [], laidByText := true, laidKinds := [.data, .handle, .pinned], laidTests := true, laidLooks := .later }
def ModelAloneCardSaid : Prop := Claim7.holds Tryz.pinned (.plain (OpenSpec.ofChange modelAloneSpec)) modelAloneCard

/-- THE TIED CARD OF 'dynamolaw23.ModelRefuses'. -/
def modelRefusesCard : Claim7 := { stood := { row := modelRefusesRow, standIns := [], harness := (true, "14d17d86ab68362215c12e5bf2aa8374b0b4d1d03fdb1ee65664cde7a2bf99bf"), looks := true }, kinds := [], alts := [], laidByText := true, laidKinds := [.data, .handle, .pinned], laidTests := true, laidLooks := .later }
def ModelRefusesCardSaid : Prop := Claim7.holds Tryz.pinned (.plain (OpenSpec.ofChange modelRefusesSpec)) modelRefusesCard

/-- THE TIED CARD OF 'dynamolaw23.ModelStrands'. -/
def modelStrandsCard : Claim7 := { stood := { row := modelStrandsRow, standIns := [], harness := (true, "14d17d86ab68362215c12e5bf2aa8374b0b4d1d03fdb1ee65664cde7a2bf99bf"), looks := true }, kinds := [], alts := [], laidByText := true, laidKinds := [.data, .handle, .pinned], laidTests := true, laidLooks := .later }
def ModelStrandsCardSaid : Prop := Claim7.holds Tryz.pinned (.plain (OpenSpec.ofChange modelStrandsSpec)) modelStrandsCard

/-- THE TIED CARD OF 'dynamolaw23.ModelSame'. -/
def modelSameCard : Claim7 := { stood := { row := modelSameRow, standIns := [], harness := (true, "14d17d86ab68362215c12e5bf2aa8374b0b4d1d03fdb1ee65664cde7a2bf99bf"), looks := true }, kinds := [], alts := [], laidByText := true, laidKinds := [.data, .handle, .pinned], laidTests := true, laidLooks := .later }
def ModelSameCardSaid : Prop := Claim7.holds Tryz.pinned (.plain (OpenSpec.ofChange modelSameSpec)) modelSameCard

/-- THE TIED CARD OF 'dynamolaw23.ModelWhole'. -/
def modelWholeCard : Claim7 := { stood := { row := modelWholeRow, standIns := [], harness := (true, "14d17d86ab68362215c12e5bf2aa8374b0b4d1d03fdb1ee65664cde7a2bf99bf"), looks := true }, kinds := [], alts := [], laidByText := true, laidKinds := [.data, .handle, .pinned], laidTests := true, laidLooks := .later }
def ModelWholeCardSaid : Prop := Claim7.holds Tryz.pinned (.plain (OpenSpec.ofChange modelWholeSpec)) modelWholeCard

/-- THE SECOND FORM's CARD OF 'dynamolaw23.ModelRight'. -/
def modelRightUptoCard : Claim7 := { stood := { row := modelRightUptoRow, standIns := [], harness := (true, "14d17d86ab68362215c12e5bf2aa8374b0b4d1d03fdb1ee65664cde7a2bf99bf"), looks := true }, kinds := [], alts := [], laidByText := true, laidKinds := [.data, .handle, .pinned], laidTests := true, laidLooks := .later }
def ModelRightUptoCardSaid : Prop := Claim7.holds Tryz.pinned (.plain (OpenSpec.upto modelRightSpec)) modelRightUptoCard

/-- THE SECOND FORM's CARD OF 'dynamolaw23.ModelSafe'. -/
def modelSafeUptoCard : Claim7 := { stood := { row := modelSafeUptoRow, standIns := [], harness := (true, "14d17d86ab68362215c12e5bf2aa8374b0b4d1d03fdb1ee65664cde7a2bf99bf"), looks := true }, kinds := [], alts := [], laidByText := true, laidKinds := [.data, .handle, .pinned], laidTests := true, laidLooks := .later }
def ModelSafeUptoCardSaid : Prop := Claim7.holds Tryz.pinned (.plain (OpenSpec.upto modelSafeSpec)) modelSafeUptoCard

/-- THE SECOND FORM's CARD OF 'dynamolaw23.ModelSums'. -/
def modelSumsUptoCard : Claim7 := { stood := { row := modelSumsUptoRow, standIns := [], harness := (true, "14d17d86ab68362215c12e5bf2aa8374b0b4d1d03fdb1ee65664cde7a2bf99bf"), looks := true }, kinds := [], alts := [], laidByText := true, laidKinds := [.data, .handle, .pinned], laidTests := true, laidLooks := .later }
def ModelSumsUptoCardSaid : Prop := Claim7.holds Tryz.pinned (.plain (OpenSpec.upto modelSumsSpec)) modelSumsUptoCard

/-- THE SECOND FORM's CARD OF 'dynamolaw23.ModelTasks'. -/
def modelTasksUptoCard : Claim7 := { stood := { row := modelTasksUptoRow, standIns := [], harness := (true, "14d17d86ab68362215c12e5bf2aa8374b0b4d1d03fdb1ee65664cde7a2bf99bf"), looks := true }, kinds := [], alts := [], laidByText := true, laidKinds := [.data, .handle, .pinned], laidTests := true, laidLooks := .later }
def ModelTasksUptoCardSaid : Prop := Claim7.holds Tryz.pinned (.plain (OpenSpec.upto modelTasksSpec)) modelTasksUptoCard

/-- THE SECOND FORM's CARD OF 'dynamolaw23.ModelAlone'. -/
def modelAloneUptoCard : Claim7 := { stood := { row := modelAloneUptoRow, standIns := [], harness := (true, "14d17d86ab68362215c12e5bf2aa8374b0b4d1d03fdb1ee65664cde7a2bf99bf"), looks := true }, kinds := [], alts := [], laidByText := true, laidKinds := [.data, .handle, .pinned], laidTests := true, laidLooks := .later }
def ModelAloneUptoCardSaid : Prop := Claim7.holds Tryz.pinned (.plain (OpenSpec.upto modelAloneSpec)) modelAloneUptoCard

/-- THE SECOND FORM's CARD OF 'dynamolaw23.ModelRefuses'. -/
def modelRefusesUptoCard : Claim7 := { stood := { row := modelRefusesUptoRow, standIns := [], harness := (true, "14d17d86ab68362215c12e5bf2aa8374b0b4d1d03fdb1ee65664cde7a2bf99bf"), looks := true }, kinds := [], alts := [], laidByText := true, laidKinds := [.data, .handle, .pinned], laidTests := true, laidLooks := .later }
def ModelRefusesUptoCardSaid : Prop := Claim7.holds Tryz.pinned (.plain (OpenSpec.upto modelRefusesSpec)) modelRefusesUptoCard

/-- THE SECOND FORM's CARD OF 'dynamolaw23.ModelStrands'. -/
def modelStrandsUptoCard : Claim7 := { stood := { row := modelStrandsUptoRow, standIns := [], harness := (true, "14d17d86ab68362215c12e5bf2aa8374b0b4d1d03fdb1ee65664cde7a2bf99bf"), looks := true }, kinds := [], alts := [], laidByText := true, laidKinds := [.data, .handle, .pinned], laidTests := true, laidLooks := .later }
def ModelStrandsUptoCardSaid : Prop := Claim7.holds Tryz.pinned (.plain (OpenSpec.upto modelStrandsSpec)) modelStrandsUptoCard

/-- THE SECOND FORM's CARD OF 'dynamolaw23.ModelSame'. -/
def modelSameUptoCard : Claim7 := { stood := { row := modelSameUptoRow, standIns := [], harness := (true, "14d17d86ab68362215c12e5bf2aa8374b0b4d1d03fdb1ee65664cde7a2bf99bf"), looks := true }, kinds := [], alts := [], laidByText := true, laidKinds := [.data, .handle, .pinned], laidTests := true, laidLooks := .later }
def ModelSameUptoCardSaid : Prop := Claim7.holds Tryz.pinned (.plain (OpenSpec.upto modelSameSpec)) modelSameUptoCard

/-- THE SECOND FORM's CARD OF 'dynamolaw23.ModelWhole'. -/
def modelWholeUptoCard : Claim7 := { stood := { row := modelWholeUptoRow, standIns := [], harness := (true, "14d17d86ab68362215c12e5bf2aa8374b0b4d1d03fdb1ee65664cde7a2bf99bf"), looks := true }, kinds := [], alts := [], laidByText := true, laidKinds := [.data, .handle, .pinned], laidTests := true, laidLooks := .later }
def ModelWholeUptoCardSaid : Prop := Claim7.holds Tryz.pinned (.plain (OpenSpec.upto modelWholeSpec)) modelWholeUptoCard
end Rows
end Go.Proofs.YtoejdgoicoaomaaGreatDoor
