/-
  DERIVED. GIVEN WITH THE SEED: THE CARDS: each row of YtcjogomiiinkfaaDoorRows.lean that lists a variable, with what it lists TIED to the program's text (the seventh form; the later family's looks); each row that meets fmt, with fmt's text TOLD by the authors' own Lean function (tested against real Go, not proved from fmt's source: count such statements apart). THE CARD IS WHAT COUNTS. Prove the row's statement (the work); the ties are given (YtcjogomiiinkfaaDoorTie.lean); close each card by the builder's one call (the guide's Derived/Test/ToyasCard.lean, 'card_holds'). Laid BY PROGRAM, IN A SANDBOX (cutbox-door.mjs). By AI agents, Wed Nov 11 2026. No macro, syntax, notation, axiom, sorry.
-/
import Derived.Test.YtcjogomiiinkfaaDoorRows
import GoSem.ClaimSeven
namespace Go.Proofs.YtcjogomiiinkfaaDoor
namespace Rows

/-- THE TIED CARD OF 'dynamolaw16.FieldPlays'. -/
def fieldPlaysCard : Claim7 := { stood := { row := fieldPlaysRow, standIns := [], harness := (true, "af04857df55014311ec39e5335f8269f1ab80fc46a76bf9e3eea4c1f58f34936"), looks := true }, kinds := [], alts := [], laidByText := true, laidKinds := [.data, .handle, .pinned], laidTests := true, laidLooks := .later }
def FieldPlaysCardSaid : Prop := Claim7.holds Tryd.pinned (.plain (OpenSpec.ofChange fieldPlaysSpec)) fieldPlaysCard

/-- THE TIED CARD OF 'dynamolaw16.FieldMore'. -/
def fieldMoreCard : Claim7 := { stood := { row := fieldMoreRow, standIns := [], harness := (true, "af04857df55014311ec39e5335f8269f1ab80fc46a76bf9e3eea4c1f58f34936"), looks := true }, kinds := [], alts := [], laidByText := true, laidKinds := [.data, .handle, .pinned], laidTests := true, laidLooks := .later }
def FieldMoreCardSaid : Prop := Claim7.holds Tryd.pinned (.plain (OpenSpec.ofChange fieldMoreSpec)) fieldMoreCard

/-- THE TIED CARD OF 'dynamolaw16.FieldScales'. -/
def fieldScalesCard : Claim7 := { stood := { row := fieldScalesRow, standIns := [], harness := (true, "af04857df55014311ec39e5335f8269f1ab80fc46a76bf9e3eea4c1f58f34936"), looks := true }, kinds := [], alts := [], laidByText := true, laidKinds := [.data, .handle, .pinned], laidTests := true, laidLooks := .later }
def FieldScalesCardSaid : Prop := Claim7.holds Tryd.pinned (.plain (OpenSpec.ofChange fieldScalesSpec)) fieldScalesCard

/-- THE TIED CARD OF 'dynamolaw16.FieldSteps'. -/
def fieldStepsCard : Claim7 := { stood := { row := fieldStepsRow, standIns := [], harness := (true, "af04857df55014311ec39e5335f8269f1ab80fc46a76bf9e3eea4c1f58f34936"), looks := true }, kinds := [], alts := [], laidByText := true, laidKinds := [.data, .handle, .pinned], laidTests := true, laidLooks := .later }
def FieldStepsCardSaid : Prop := Claim7.holds Tryd.pinned (.plain (OpenSpec.ofChange fieldStepsSpec)) fieldStepsCard

/-- THE TIED CARD OF 'dynamolaw16.FieldDowns'. -/
def fieldDownsCard : Claim7 := { stood := { row := fieldDownsRow, standIns := [], harness := (true, "af04857df55014311ec39e5335f8269f1ab80fc46a76bf9e3eea4c1f58f34936"), looks := true }, kinds := [], alts := [], laidByText := true, laidKinds := [.data, .handle, .pinned], laidTests := true, laidLooks := .later }
def FieldDownsCardSaid : Prop := Claim7.holds Tryd.pinned (.plain (OpenSpec.ofChange fieldDownsSpec)) fieldDownsCard

/-- THE TIED CARD OF 'dynamolaw16.FieldNone'. -/
def fieldNoneCard : Claim7 := { stood := { row := fieldNoneRow, standIns := [], harness := (true, "af04857df55014311ec39e5335f8269f1ab80fc46a76bf9e3eea4c1f58f34936"), looks := true }, kinds := [], alts := [], laidByText := true, laidKinds := [.data, .handle, .pinned], laidTests := true, laidLooks := .later }
def FieldNoneCardSaid : Prop := Claim7.holds Tryd.pinned (.plain (OpenSpec.ofChange fieldNoneSpec)) fieldNoneCard

/-- THE TIED CARD OF 'dynamolaw17.RoutePlans'. -/
def routePlansCard : Claim7 := { stood := { row := routePlansRow, standIns := [], harness := (true, "af04857df55014311ec39e5335f8269f1ab80fc46a76bf9e3eea4c1f58f34936"), looks := true }, kinds := [], alts := [], laidByText := true, laidKinds := [.data, .handle, .pinned], laidTests := true, laidLooks := .later }
def RoutePlansCardSaid : Prop := Claim7.holds Tryd.pinned (.plain (OpenSpec.ofChange routePlansSpec)) routePlansCard

/-- THE TIED CARD OF 'dynamolaw17.RouteThird'. -/
def routeThirdCard : Claim7 := { stood := { row := routeThirdRow, standIns := [], harness := (true, "af04857df55014311ec39e5335f8269f1ab80fc46a76bf9e3eea4c1f58f34936"), looks := true }, kinds := [], alts := [], laidByText := true, laidKinds := [.data, .handle, .pinned], laidTests := true, laidLooks := .later }
def RouteThirdCardSaid : Prop := Claim7.holds Tryd.pinned (.plain (OpenSpec.ofChange routeThirdSpec)) routeThirdCard

/-- THE TIED CARD OF 'dynamolaw17.RouteTotals'. -/
def routeTotalsCard : Claim7 := { stood := { row := routeTotalsRow, standIns := [], harness := (true, "af04857df55014311ec39e5335f8269f1ab80fc46a76bf9e3eea4c1f58f34936"), looks := true }, kinds := [], alts := [], laidByText := true, laidKinds := [.data, .handle, .pinned], laidTests := true, laidLooks := .later }
def RouteTotalsCardSaid : Prop := Claim7.holds Tryd.pinned (.plain (OpenSpec.ofChange routeTotalsSpec)) routeTotalsCard

/-- THE TIED CARD OF 'dynamolaw17.RouteNexts'. -/
def routeNextsCard : Claim7 := { stood := { row := routeNextsRow, standIns := [], harness := (true, "af04857df55014311ec39e5335f8269f1ab80fc46a76bf9e3eea4c1f58f34936"), looks := true }, kinds := [], alts := [], laidByText := true, laidKinds := [.data, .handle, .pinned], laidTests := true, laidLooks := .later }
def RouteNextsCardSaid : Prop := Claim7.holds Tryd.pinned (.plain (OpenSpec.ofChange routeNextsSpec)) routeNextsCard

/-- THE TIED CARD OF 'dynamolaw17.RouteFree'. -/
def routeFreeCard : Claim7 := { stood := { row := routeFreeRow, standIns := [], harness := (true, "af04857df55014311ec39e5335f8269f1ab80fc46a76bf9e3eea4c1f58f34936"), looks := true }, kinds := [], alts := [], laidByText := true, laidKinds := [.data, .handle, .pinned], laidTests := true, laidLooks := .later }
def RouteFreeCardSaid : Prop := Claim7.holds Tryd.pinned (.plain (OpenSpec.ofChange routeFreeSpec)) routeFreeCard

/-- THE TIED CARD OF 'dynamolaw17.RouteParts'. -/
def routePartsCard : Claim7 := { stood := { row := routePartsRow, standIns := [], harness := (true, "af04857df55014311ec39e5335f8269f1ab80fc46a76bf9e3eea4c1f58f34936"), looks := true }, kinds := [], alts := [], laidByText := true, laidKinds := [.data, .handle, .pinned], laidTests := true, laidLooks := .later }
def RoutePartsCardSaid : Prop := Claim7.holds Tryd.pinned (.plain (OpenSpec.ofChange routePartsSpec)) routePartsCard

/-- THE SECOND FORM's CARD OF 'dynamolaw16.FieldPlays'. -/
def fieldPlaysUptoCard : Claim7 := { stood := { row := fieldPlaysUptoRow, standIns := [], harness := (true, "af04857df55014311ec39e5335f8269f1ab80fc46a76bf9e3eea4c1f58f34936"), looks := true }, kinds := [], alts := [], laidByText := true, laidKinds := [.data, .handle, .pinned], laidTests := true, laidLooks := .later }
def FieldPlaysUptoCardSaid : Prop := Claim7.holds Tryd.pinned (.plain (OpenSpec.upto fieldPlaysSpec)) fieldPlaysUptoCard

/-- THE SECOND FORM's CARD OF 'dynamolaw16.FieldMore'. -/
def fieldMoreUptoCard : Claim7 := { stood := { row := fieldMoreUptoRow, standIns := [], harness := (true, "af04857df55014311ec39e5335f8269f1ab80fc46a76bf9e3eea4c1f58f34936"), looks := true }, kinds := [], alts := [], laidByText := true, laidKinds := [.data, .handle, .pinned], laidTests := true, laidLooks := .later }
def FieldMoreUptoCardSaid : Prop := Claim7.holds Tryd.pinned (.plain (OpenSpec.upto fieldMoreSpec)) fieldMoreUptoCard

/-- THE SECOND FORM's CARD OF 'dynamolaw16.FieldScales'. -/
def fieldScalesUptoCard : Claim7 := { stood := { row := fieldScalesUptoRow, standIns := [], harness := (true, "af04857df55014311ec39e5335f8269f1ab80fc46a76bf9e3eea4c1f58f34936"), looks := true }, kinds := [], alts := [], laidByText := true, laidKinds := [.data, .handle, .pinned], laidTests := true, laidLooks := .later }
def FieldScalesUptoCardSaid : Prop := Claim7.holds Tryd.pinned (.plain (OpenSpec.upto fieldScalesSpec)) fieldScalesUptoCard

/-- THE SECOND FORM's CARD OF 'dynamolaw16.FieldSteps'. -/
def fieldStepsUptoCard : Claim7 := { stood := { row := fieldStepsUptoRow, standIns := [], harness := (true, "af04857df55014311ec39e5335f8269f1ab80fc46a76bf9e3eea4c1f58f34936"), looks := true }, kinds := [], alts := [], laidByText := true, laidKinds := [.data, .handle, .pinned], laidTests := true, laidLooks := .later }
def FieldStepsUptoCardSaid : Prop := Claim7.holds Tryd.pinned (.plain (OpenSpec.upto fieldStepsSpec)) fieldStepsUptoCard

/-- THE SECOND FORM's CARD OF 'dynamolaw16.FieldDowns'. -/
def fieldDownsUptoCard : Claim7 := { stood := { row := fieldDownsUptoRow, standIns := [], harness := (true, "af04857df55014311ec39e5335f8269f1ab80fc46a76bf9e3eea4c1f58f34936"), looks := true }, kinds := [], alts := [], laidByText := true, laidKinds := [.data, .handle, .pinned], laidTests := true, laidLooks := .later }
def FieldDownsUptoCardSaid : Prop := Claim7.holds Tryd.pinned (.plain (OpenSpec.upto fieldDownsSpec)) fieldDownsUptoCard

/-- THE SECOND FORM's CARD OF 'dynamolaw16.FieldNone'. -/
def fieldNoneUptoCard : Claim7 := { stood := { row := fieldNoneUptoRow, standIns := [], harness := (true, "af04857df55014311ec39e5335f8269f1ab80fc46a76bf9e3eea4c1f58f34936"), looks := true }, kinds := [], alts := [], laidByText := true, laidKinds := [.data, .handle, .pinned], laidTests := true, laidLooks := .later }
def FieldNoneUptoCardSaid : Prop := Claim7.holds Tryd.pinned (.plain (OpenSpec.upto fieldNoneSpec)) fieldNoneUptoCard

/-- THE SECOND FORM's CARD OF 'dynamolaw17.RoutePlans'. -/
def routePlansUptoCard : Claim7 := { stood := { row := routePlansUptoRow, standIns := [], harness := (true, "af04857df55014311ec39e5335f8269f1ab80fc46a76bf9e3eea4c1f58f34936"), looks := true }, kinds := [], alts := [], laidByText := true, laidKinds := [.data, .handle, .pinned], laidTests := true, laidLooks := .later }
def RoutePlansUptoCardSaid : Prop := Claim7.holds Tryd.pinned (.plain (OpenSpec.upto routePlansSpec)) routePlansUptoCard

/-- THE SECOND FORM's CARD OF 'dynamolaw17.RouteThird'. -/
def routeThirdUptoCard : Claim7 := { stood := { row := routeThirdUptoRow, standIns := [], harness := (true, "af04857df55014311ec39e5335f8269f1ab80fc46a76bf9e3eea4c1f58f34936"), looks := true }, kinds := [], alts := [], laidByText := true, laidKinds := [.data, .handle, .pinned], laidTests := true, laidLooks := .later }
def RouteThirdUptoCardSaid : Prop := Claim7.holds Tryd.pinned (.plain (OpenSpec.upto routeThirdSpec)) routeThirdUptoCard

/-- THE SECOND FORM's CARD OF 'dynamolaw17.RouteTotals'. -/
def routeTotalsUptoCard : Claim7 := { stood := { row := routeTotalsUptoRow, standIns := [], harness := (true, "af04857df55014311ec39e5335f8269f1ab80fc46a76bf9e3eea4c1f58f34936"), looks := true }, kinds := [], alts := [], laidByText := true, laidKinds := [.data, .handle, .pinned], laidTests := true, laidLooks := .later }
def RouteTotalsUptoCardSaid : Prop := Claim7.holds Tryd.pinned (.plain (OpenSpec.upto routeTotalsSpec)) routeTotalsUptoCard

/-- THE SECOND FORM's CARD OF 'dynamolaw17.RouteNexts'. -/
def routeNextsUptoCard : Claim7 := { stood := { row := routeNextsUptoRow, standIns := [], harness := (true, "af04857df55014311ec39e5335f8269f1ab80fc46a76bf9e3eea4c1f58f34936"), looks := true }, kinds := [], alts := [], laidByText := true, laidKinds := [.data, .handle, .pinned], laidTests := true, laidLooks := .later }
def RouteNextsUptoCardSaid : Prop := Claim7.holds Tryd.pinned (.plain (OpenSpec.upto routeNextsSpec)) routeNextsUptoCard

/-- THE SECOND FORM's CARD OF 'dynamolaw17.RouteFree'. -/
def routeFreeUptoCard : Claim7 := { stood := { row := routeFreeUptoRow, standIns := [], harness := (true, "af04857df55014311ec39e5335f8269f1ab80fc46a76bf9e3eea4c1f58f34936"), looks := true }, kinds := [], alts := [], laidByText := true, laidKinds := [.data, .handle, .pinned], laidTests := true, laidLooks := .later }
def RouteFreeUptoCardSaid : Prop := Claim7.holds Tryd.pinned (.plain (OpenSpec.upto routeFreeSpec)) routeFreeUptoCard

/-- THE SECOND FORM's CARD OF 'dynamolaw17.RouteParts'. -/
def routePartsUptoCard : Claim7 := { stood := { row := routePartsUptoRow, standIns := [], harness := (true, "af04857df55014311ec39e5335f8269f1ab80fc46a76bf9e3eea4c1f58f34936"), looks := true }, kinds := [], alts := [], laidByText := true, laidKinds := [.data, .handle, .pinned], laidTests := true, laidLooks := .later }
def RoutePartsUptoCardSaid : Prop := Claim7.holds Tryd.pinned (.plain (OpenSpec.upto routePartsSpec)) routePartsUptoCard
end Rows
end Go.Proofs.YtcjogomiiinkfaaDoor
