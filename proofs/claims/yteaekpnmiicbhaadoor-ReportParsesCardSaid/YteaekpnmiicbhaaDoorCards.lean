/-
  DERIVED. GIVEN WITH THE SEED: THE CARDS: each row of YteaekpnmiicbhaaDoorRows.lean that lists a variable, with what it lists TIED to the program's text (the seventh form; the later family's looks); each row that meets fmt, with fmt's text TOLD by the authors' own Lean function (tested against real Go, not proved from fmt's source: count such statements apart). THE CARD IS WHAT COUNTS. Prove the row's statement (the work); the ties are given (YteaekpnmiicbhaaDoorTie.lean); close each card by the builder's one call (the guide's Derived/Test/ToyasCard.lean, 'card_holds'). Laid BY PROGRAM, IN A SANDBOX (cutbox-door.mjs). By AI agents, Wed Nov 11 2026. No macro, syntax, notation, axiom, sorry.
-/
import Derived.Test.YteaekpnmiicbhaaDoorRows
import GoSem.ClaimSeven
namespace Go.Proofs.YteaekpnmiicbhaaDoor
namespace Rows

/-- THE TIED CARD OF 'chequerlaw20.ReportTexts'. -/
def reportTextsCard : Claim7 := { stood := { row := reportTextsRow, standIns := [], harness := (true, "114825f00c440cd1fe281836e9526bb12dc44a00e4d6c02fe6f7365e5a7c589f"), looks := false }, kinds := [], alts := [], laidByText := true, laidKinds := [.data, .pinned], laidTests := true, laidLooks := .later }
def ReportTextsCardSaid : Prop := Claim7.holds Tryd.pinned (.plain (OpenSpec.ofChange reportTextsSpec)) reportTextsCard

/-- THE TIED CARD OF 'chequerlaw20.ReportParses'. -/
def reportParsesCard : Claim7 := { stood := { row := reportParsesRow, standIns := [], harness := (true, "114825f00c440cd1fe281836e9526bb12dc44a00e4d6c02fe6f7365e5a7c589f"), looks := false }, kinds := [], alts := [], laidByText := true, laidKinds := [.data, .pinned], laidTests := true, laidLooks := .later }
def ReportParsesCardSaid : Prop := Claim7.holds Tryd.pinned (.plain (OpenSpec.ofChange reportParsesSpec)) reportParsesCard

/-- THE TIED CARD OF 'chequerlaw20.ReportJoins'. -/
def reportJoinsCard : Claim7 := { stood := { row := reportJoinsRow, standIns := [], harness := (true, "114825f00c440cd1fe281836e9526bb12dc44a00e4d6c02fe6f7365e5a7c589f"), looks := false }, kinds := [], alts := [], laidByText := true, laidKinds := [.data, .pinned], laidTests := true, laidLooks := .later }
def ReportJoinsCardSaid : Prop := Claim7.holds Tryd.pinned (.plain (OpenSpec.ofChange reportJoinsSpec)) reportJoinsCard

/-- THE SECOND FORM's CARD OF 'chequerlaw20.ReportTexts'. -/
def reportTextsUptoCard : Claim7 := { stood := { row := reportTextsUptoRow, standIns := [], harness := (true, "114825f00c440cd1fe281836e9526bb12dc44a00e4d6c02fe6f7365e5a7c589f"), looks := false }, kinds := [], alts := [], laidByText := true, laidKinds := [.data, .pinned], laidTests := true, laidLooks := .later }
def ReportTextsUptoCardSaid : Prop := Claim7.holds Tryd.pinned (.plain (OpenSpec.upto reportTextsSpec)) reportTextsUptoCard

/-- THE SECOND FORM's CARD OF 'chequerlaw20.ReportParses'. -/
def reportParsesUptoCard : Claim7 := { stood := { row := reportParsesUptoRow, standIns := [], harness := (true, "114825f00c440cd1fe281836e9526bb12dc44a00e4d6c02fe6f7365e5a7c589f"), looks := false }, kinds := [], alts := [], laidByText := true, laidKinds := [.data, .pinned], laidTests := true, laidLooks := .later }
def ReportParsesUptoCardSaid : Prop := Claim7.holds Tryd.pinned (.plain (OpenSpec.upto reportParsesSpec)) reportParsesUptoCard

/-- THE SECOND FORM's CARD OF 'chequerlaw20.ReportJoins'. -/
def reportJoinsUptoCard : Claim7 := { stood := { row := reportJoinsUptoRow, standIns := [], harness := (true, "114825f00c440cd1fe281836e9526bb12dc44a00e4d6c02fe6f7365e5a7c589f"), looks := false }, kinds := [], alts := [], laidByText := true, laidKinds := [.data, .pinned], laidTests := true, laidLooks := .later }
def ReportJoinsUptoCardSaid : Prop := Claim7.holds Tryd.pinned (.plain (OpenSpec.upto reportJoinsSpec)) reportJoinsUptoCard
end Rows
end Go.Proofs.YteaekpnmiicbhaaDoor
