/-
  DERIVED. GIVEN WITH THE SEED: THE CARDS: each row of YtepjinaomedecaaDoorRows.lean that lists a variable, with what it lists TIED to the program's text (the seventh form; the later family's looks); each row that meets fmt, with fmt's text TOLD by the authors' own Lean function (tested against real Go, not proved from fmt's source: count such statements apart). THE CARD IS WHAT COUNTS. Prove the row's statement (the work); the ties are given (YtepjinaomedecaaDoorTie.lean); close each card by the builder's one call (the guide's Derived/Test/ToyasCard.lean, 'card_holds'). Laid BY PROGRAM, IN A SANDBOX (cutbox-door.mjs). By AI agents, Wed Nov 11 2026. No macro, syntax, notation, axiom, sorry.
-/
import Derived.Test.YtepjinaomedecaaDoorRows
import GoSem.ClaimSeven
namespace Go.Proofs.YtepjinaomedecaaDoor
namespace Rows

/-- THE TIED CARD OF 'dynamolaw14.GridBack'. -/
def gridBackCard : Claim7 := { stood := { row := gridBackRow, standIns := [], harness := (true, "ec11e7beab9fabc474cd9fc8eebfd90708716cc680c4cf16d693d9edbc04e491"), looks := true }, kinds := [], alts := [], laidByText := true, laidKinds := [.data, .handle, .pinned], laidTests := true, laidLooks := .later }
def GridBackCardSaid : Prop := Claim7.holds Tryd.pinned (.plain (OpenSpec.ofChange gridBackSpec)) gridBackCard

/-- THE TIED CARD OF 'dynamolaw14.GridPlays'. -/
def gridPlaysCard : Claim7 := { stood := { row := gridPlaysRow, standIns := [], harness := (true, "ec11e7beab9fabc474cd9fc8eebfd90708716cc680c4cf16d693d9edbc04e491"), looks := true }, kinds := [], alts := [], laidByText := true, laidKinds := [.data, .handle, .pinned], laidTests := true, laidLooks := .later }
def GridPlaysCardSaid : Prop := Claim7.holds Tryd.pinned (.plain (OpenSpec.ofChange gridPlaysSpec)) gridPlaysCard

/-- THE TIED CARD OF 'dynamolaw25.TextBack'. -/
def textBackCard : Claim7 := { stood := { row := textBackRow, standIns := [], harness := (true, "ec11e7beab9fabc474cd9fc8eebfd90708716cc680c4cf16d693d9edbc04e491"), looks := true }, kinds := [], alts := [], laidByText := true, laidKinds := [.data, .data, .data, .data, .handle, .sentinel, .sentinel, .pinned], laidTests := true, laidLooks := .later }
def TextBackCardSaid : Prop := Claim7.holds Tryd.pinned (.plain (OpenSpec.ofChange textBackSpec)) textBackCard

/-- THE TIED CARD OF 'dynamolaw25.TextOnly'. -/
def textOnlyCard : Claim7 := { stood := { row := textOnlyRow, standIns := [], harness := (true, "ec11e7beab9fabc474cd9fc8eebfd90708716cc680c4cf16d693d9edbc04e491"), looks := true }, kinds := [], alts := [], laidByText := true, laidKinds := [.data, .data, .data, .data, .handle, .sentinel, .sentinel, .pinned], laidTests := true, laidLooks := .later }
def TextOnlyCardSaid : Prop := Claim7.holds Tryd.pinned (.plain (OpenSpec.ofChange textOnlySpec)) textOnlyCard

/-- THE TIED CARD OF 'dynamolaw25.TextUnlike'. -/
def textUnlikeCard : Claim7 := { stood := { row := textUnlikeRow, standIns := [], harness := (true, "ec11e7beab9fabc474cd9fc8eebfd90708716cc680c4cf16d693d9edbc04e491"), looks := true }, kinds := [], alts := [], laidByText := true, laidKinds := [.data, .data, .data, .data, .handle, .sentinel, .sentinel, .pinned], laidTests := true, laidLooks := .later }
def TextUnlikeCardSaid : Prop := Claim7.holds Tryd.pinned (.plain (OpenSpec.ofChange textUnlikeSpec)) textUnlikeCard

/-- THE TIED CARD OF 'dynamolaw25.TextTells'. -/
def textTellsCard : Claim7 := { stood := { row := textTellsRow, standIns := [], harness := (true, "ec11e7beab9fabc474cd9fc8eebfd90708716cc680c4cf16d693d9edbc04e491"), looks := true }, kinds := [], alts := [], laidByText := true, laidKinds := [.data, .data, .data, .data, .handle, .sentinel, .sentinel, .pinned], laidTests := true, laidLooks := .later }
def TextTellsCardSaid : Prop := Claim7.holds Tryd.pinned (.plain (OpenSpec.ofChange textTellsSpec)) textTellsCard

/-- THE TIED CARD OF 'dynamolaw25.TextAll'. -/
def textAllCard : Claim7 := { stood := { row := textAllRow, standIns := [], harness := (true, "ec11e7beab9fabc474cd9fc8eebfd90708716cc680c4cf16d693d9edbc04e491"), looks := true }, kinds := [], alts := [], laidByText := true, laidKinds := [.data, .data, .data, .data, .handle, .sentinel, .sentinel, .pinned], laidTests := true, laidLooks := .later }
def TextAllCardSaid : Prop := Claim7.holds Tryd.pinned (.plain (OpenSpec.ofChange textAllSpec)) textAllCard

/-- THE TIED CARD OF 'dynamolaw25.TextJoins'. -/
def textJoinsCard : Claim7 := { stood := { row := textJoinsRow, standIns := [], harness := (true, "ec11e7beab9fabc474cd9fc8eebfd90708716cc680c4cf16d693d9edbc04e491"), looks := true }, kinds := [], alts := [], laidByText := true, laidKinds := [.data, .data, .data, .data, .handle, .sentinel, .sentinel, .pinned], laidTests := true, laidLooks := .later }
def TextJoinsCardSaid : Prop := Claim7.holds Tryd.pinned (.plain (OpenSpec.ofChange textJoinsSpec)) textJoinsCard

/-- THE SECOND FORM's CARD OF 'dynamolaw14.GridBack'. -/
def gridBackUptoCard : Claim7 := { stood := { row := gridBackUptoRow, standIns := [], harness := (true, "ec11e7beab9fabc474cd9fc8eebfd90708716cc680c4cf16d693d9edbc04e491"), looks := true }, kinds := [], alts := [], laidByText := true, laidKinds := [.data, .handle, .pinned], laidTests := true, laidLooks := .later }
def GridBackUptoCardSaid : Prop := Claim7.holds Tryd.pinned (.plain (OpenSpec.upto gridBackSpec)) gridBackUptoCard

/-- THE SECOND FORM's CARD OF 'dynamolaw14.GridPlays'. -/
def gridPlaysUptoCard : Claim7 := { stood := { row := gridPlaysUptoRow, standIns := [], harness := (true, "ec11e7beab9fabc474cd9fc8eebfd90708716cc680c4cf16d693d9edbc04e491"), looks := true }, kinds := [], alts := [], laidByText := true, laidKinds := [.data, .handle, .pinned], laidTests := true, laidLooks := .later }
def GridPlaysUptoCardSaid : Prop := Claim7.holds Tryd.pinned (.plain (OpenSpec.upto gridPlaysSpec)) gridPlaysUptoCard

/-- THE SECOND FORM's CARD OF 'dynamolaw25.TextBack'. -/
def textBackUptoCard : Claim7 := { stood := { row := textBackUptoRow, standIns := [], harness := (true, "ec11e7beab9fabc474cd9fc8eebfd90708716cc680c4cf16d693d9edbc04e491"), looks := true }, kinds := [], alts := [], laidByText := true, laidKinds := [.data, .data, .data, .data, .handle, .sentinel, .sentinel, .pinned], laidTests := true, laidLooks := .later }
def TextBackUptoCardSaid : Prop := Claim7.holds Tryd.pinned (.plain (OpenSpec.upto textBackSpec)) textBackUptoCard

/-- THE SECOND FORM's CARD OF 'dynamolaw25.TextOnly'. -/
def textOnlyUptoCard : Claim7 := { stood := { row := textOnlyUptoRow, standIns := [], harness := (true, "ec11e7beab9fabc474cd9fc8eebfd90708716cc680c4cf16d693d9edbc04e491"), looks := true }, kinds := [], alts := [], laidByText := true, laidKinds := [.data, .data, .data, .data, .handle, .sentinel, .sentinel, .pinned], laidTests := true, laidLooks := .later }
def TextOnlyUptoCardSaid : Prop := Claim7.holds Tryd.pinned (.plain (OpenSpec.upto textOnlySpec)) textOnlyUptoCard

/-- THE SECOND FORM's CARD OF 'dynamolaw25.TextUnlike'. -/
def textUnlikeUptoCard : Claim7 := { stood := { row := textUnlikeUptoRow, standIns := [], harness := (true, "ec11e7beab9fabc474cd9fc8eebfd90708716cc680c4cf16d693d9edbc04e491"), looks := true }, kinds := [], alts := [], laidByText := true, laidKinds := [.data, .data, .data, .data, .handle, .sentinel, .sentinel, .pinned], laidTests := true, laidLooks := .later }
def TextUnlikeUptoCardSaid : Prop := Claim7.holds Tryd.pinned (.plain (OpenSpec.upto textUnlikeSpec)) textUnlikeUptoCard

/-- THE SECOND FORM's CARD OF 'dynamolaw25.TextTells'. -/
def textTellsUptoCard : Claim7 := { stood := { row := textTellsUptoRow, standIns := [], harness := (true, "ec11e7beab9fabc474cd9fc8eebfd90708716cc680c4cf16d693d9edbc04e491"), looks := true }, kinds := [], alts := [], laidByText := true, laidKinds := [.data, .data, .data, .data, .handle, .sentinel, .sentinel, .pinned], laidTests := true, laidLooks := .later }
def TextTellsUptoCardSaid : Prop := Claim7.holds Tryd.pinned (.plain (OpenSpec.upto textTellsSpec)) textTellsUptoCard

/-- THE SECOND FORM's CARD OF 'dynamolaw25.TextAll'. -/
def textAllUptoCard : Claim7 := { stood := { row := textAllUptoRow, standIns := [], harness := (true, "ec11e7beab9fabc474cd9fc8eebfd90708716cc680c4cf16d693d9edbc04e491"), looks := true }, kinds := [], alts := [], laidByText := true, laidKinds := [.data, .data, .data, .data, .handle, .sentinel, .sentinel, .pinned], laidTests := true, laidLooks := .later }
def TextAllUptoCardSaid : Prop := Claim7.holds Tryd.pinned (.plain (OpenSpec.upto textAllSpec)) textAllUptoCard

/-- THE SECOND FORM's CARD OF 'dynamolaw25.TextJoins'. -/
def textJoinsUptoCard : Claim7 := { stood := { row := textJoinsUptoRow, standIns := [], harness := (true, "ec11e7beab9fabc474cd9fc8eebfd90708716cc680c4cf16d693d9edbc04e491"), looks := true }, kinds := [], alts := [], laidByText := true, laidKinds := [.data, .data, .data, .data, .handle, .sentinel, .sentinel, .pinned], laidTests := true, laidLooks := .later }
def TextJoinsUptoCardSaid : Prop := Claim7.holds Tryd.pinned (.plain (OpenSpec.upto textJoinsSpec)) textJoinsUptoCard
end Rows
end Go.Proofs.YtepjinaomedecaaDoor
