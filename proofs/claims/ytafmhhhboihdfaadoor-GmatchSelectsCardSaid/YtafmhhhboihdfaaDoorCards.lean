/-
  DERIVED. GIVEN WITH THE SEED: THE CARDS: each row of YtafmhhhboihdfaaDoorRows.lean that lists a variable, with what it lists TIED to the program's text (the seventh form; the later family's looks); each row that meets fmt, with fmt's text TOLD by the authors' own Lean function (tested against real Go, not proved from fmt's source: count such statements apart). THE CARD IS WHAT COUNTS. Prove the row's statement (the work); the ties are given (YtafmhhhboihdfaaDoorTie.lean); close each card by the builder's one call (the guide's Derived/Test/ToyasCard.lean, 'card_holds'). Laid BY PROGRAM, IN A SANDBOX (cutbox-door.mjs). By AI agents, Wed Nov 11 2026. No macro, syntax, notation, axiom, sorry.
-/
import Derived.Test.YtafmhhhboihdfaaDoorRows
import GoSem.ClaimSeven
namespace Go.Proofs.YtafmhhhboihdfaaDoor
namespace Rows

/-- THE TIED CARD OF 'pidginlaw7.GmatchSteps'. -/
def gmatchStepsCard : Claim7 := { stood := { row := gmatchStepsRow, standIns := [], harness := (true, "f45bf6a8ffdc3694300a53dde87e90b74f249ff98f1146963ee00b844779babd"), looks := false }, kinds := [], alts := [], laidByText := true, laidKinds := [.sentinel, .sentinel, .sentinel, .sentinel, .sentinel, .sentinel, .sentinel, .sentinel, .sentinel, .sentinel, .sentinel, .sentinel, .sentinel, .sentinel, .sentinel, .sentinel, .sentinel, .sentinel, .sentinel, .sentinel, .sentinel], laidTests := true, laidLooks := .later }
def GmatchStepsCardSaid : Prop := Claim7.holds Tryd.pinned (.plain (OpenSpec.ofChange gmatchStepsSpec)) gmatchStepsCard

/-- THE TIED CARD OF 'pidginlaw7.GmatchQuoted'. -/
def gmatchQuotedCard : Claim7 := { stood := { row := gmatchQuotedRow, standIns := [], harness := (true, "f45bf6a8ffdc3694300a53dde87e90b74f249ff98f1146963ee00b844779babd"), looks := false }, kinds := [], alts := [], laidByText := true, laidKinds := [.sentinel, .sentinel, .sentinel, .sentinel, .sentinel, .sentinel, .sentinel, .sentinel, .sentinel, .sentinel, .sentinel, .sentinel, .sentinel, .sentinel, .sentinel, .sentinel, .sentinel, .sentinel, .sentinel, .sentinel, .sentinel], laidTests := true, laidLooks := .later }
def GmatchQuotedCardSaid : Prop := Claim7.holds Tryd.pinned (.plain (OpenSpec.ofChange gmatchQuotedSpec)) gmatchQuotedCard

/-- THE TIED CARD OF 'pidginlaw7.GmatchStars'. -/
def gmatchStarsCard : Claim7 := { stood := { row := gmatchStarsRow, standIns := [], harness := (true, "f45bf6a8ffdc3694300a53dde87e90b74f249ff98f1146963ee00b844779babd"), looks := false }, kinds := [], alts := [], laidByText := true, laidKinds := [.sentinel, .sentinel, .sentinel, .sentinel, .sentinel, .sentinel, .sentinel, .sentinel, .sentinel, .sentinel, .sentinel, .sentinel, .sentinel, .sentinel, .sentinel, .sentinel, .sentinel, .sentinel, .sentinel, .sentinel, .sentinel], laidTests := true, laidLooks := .later }
def GmatchStarsCardSaid : Prop := Claim7.holds Tryd.pinned (.plain (OpenSpec.ofChange gmatchStarsSpec)) gmatchStarsCard

/-- THE TIED CARD OF 'pidginlaw7.GmatchMatches'. -/
def gmatchMatchesCard : Claim7 := { stood := { row := gmatchMatchesRow, standIns := [], harness := (true, "f45bf6a8ffdc3694300a53dde87e90b74f249ff98f1146963ee00b844779babd"), looks := false }, kinds := [], alts := [], laidByText := true, laidKinds := [.sentinel, .sentinel, .sentinel, .sentinel, .sentinel, .sentinel, .sentinel, .sentinel, .sentinel, .sentinel, .sentinel, .sentinel, .sentinel, .sentinel, .sentinel, .sentinel, .sentinel, .sentinel, .sentinel, .sentinel, .sentinel], laidTests := true, laidLooks := .later }
def GmatchMatchesCardSaid : Prop := Claim7.holds Tryd.pinned (.plain (OpenSpec.ofChange gmatchMatchesSpec)) gmatchMatchesCard

/-- THE TIED CARD OF 'pidginlaw7.GmatchWhole'. -/
def gmatchWholeCard : Claim7 := { stood := { row := gmatchWholeRow, standIns := [], harness := (true, "f45bf6a8ffdc3694300a53dde87e90b74f249ff98f1146963ee00b844779babd"), looks := false }, kinds := [], alts := [], laidByText := true, laidKinds := [.sentinel, .sentinel, .sentinel, .sentinel, .sentinel, .sentinel, .sentinel, .sentinel, .sentinel, .sentinel, .sentinel, .sentinel, .sentinel, .sentinel, .sentinel, .sentinel, .sentinel, .sentinel, .sentinel, .sentinel, .sentinel], laidTests := true, laidLooks := .later }
def GmatchWholeCardSaid : Prop := Claim7.holds Tryd.pinned (.plain (OpenSpec.ofChange gmatchWholeSpec)) gmatchWholeCard

/-- THE TIED CARD OF 'pidginlaw7.GmatchCuts'. -/
def gmatchCutsCard : Claim7 := { stood := { row := gmatchCutsRow, standIns := [], harness := (true, "f45bf6a8ffdc3694300a53dde87e90b74f249ff98f1146963ee00b844779babd"), looks := false }, kinds := [], alts := [], laidByText := true, laidKinds := [.sentinel, .sentinel, .sentinel, .sentinel, .sentinel, .sentinel, .sentinel, .sentinel, .sentinel, .sentinel, .sentinel, .sentinel, .sentinel, .sentinel, .sentinel, .sentinel, .sentinel, .sentinel, .sentinel, .sentinel, .sentinel], laidTests := true, laidLooks := .later }
def GmatchCutsCardSaid : Prop := Claim7.holds Tryd.pinned (.plain (OpenSpec.ofChange gmatchCutsSpec)) gmatchCutsCard

/-- THE TIED CARD OF 'pidginlaw7.GmatchSelects'. -/
def gmatchSelectsCard : Claim7 := { stood := { row := gmatchSelectsRow, standIns := [], harness := (true, "f45bf6a8ffdc3694300a53dde87e90b74f249ff98f1146963ee00b844779babd"), looks := false }, kinds := [], alts := [], laidByText := true, laidKinds := [.sentinel, .sentinel, .sentinel, .sentinel, .sentinel, .sentinel, .sentinel, .sentinel, .sentinel, .sentinel, .sentinel, .sentinel, .sentinel, .sentinel, .sentinel, .sentinel, .sentinel, .sentinel, .sentinel, .sentinel, .sentinel], laidTests := true, laidLooks := .later }
def GmatchSelectsCardSaid : Prop := Claim7.holds Tryd.pinned (.plain (OpenSpec.ofChange gmatchSelectsSpec)) gmatchSelectsCard

/-- THE TIED CARD OF 'pidginlaw7.GmatchNil'. -/
def gmatchNilCard : Claim7 := { stood := { row := gmatchNilRow, standIns := [], harness := (true, "f45bf6a8ffdc3694300a53dde87e90b74f249ff98f1146963ee00b844779babd"), looks := false }, kinds := [], alts := [], laidByText := true, laidKinds := [.sentinel, .sentinel, .sentinel, .sentinel, .sentinel, .sentinel, .sentinel, .sentinel, .sentinel, .sentinel, .sentinel, .sentinel, .sentinel, .sentinel, .sentinel, .sentinel, .sentinel, .sentinel, .sentinel, .sentinel, .sentinel], laidTests := true, laidLooks := .later }
def GmatchNilCardSaid : Prop := Claim7.holds Tryd.pinned (.plain (OpenSpec.ofChange gmatchNilSpec)) gmatchNilCard

/-- THE SECOND FORM's CARD OF 'pidginlaw7.GmatchSteps'. -/
def gmatchStepsUptoCard : Claim7 := { stood := { row := gmatchStepsUptoRow, standIns := [], harness := (true, "f45bf6a8ffdc3694300a53dde87e90b74f249ff98f1146963ee00b844779babd"), looks := false }, kinds := [], alts := [], laidByText := true, laidKinds := [.sentinel, .sentinel, .sentinel, .sentinel, .sentinel, .sentinel, .sentinel, .sentinel, .sentinel, .sentinel, .sentinel, .sentinel, .sentinel, .sentinel, .sentinel, .sentinel, .sentinel, .sentinel, .sentinel, .sentinel, .sentinel], laidTests := true, laidLooks := .later }
def GmatchStepsUptoCardSaid : Prop := Claim7.holds Tryd.pinned (.plain (OpenSpec.upto gmatchStepsSpec)) gmatchStepsUptoCard

/-- THE SECOND FORM's CARD OF 'pidginlaw7.GmatchQuoted'. -/
def gmatchQuotedUptoCard : Claim7 := { stood := { row := gmatchQuotedUptoRow, standIns := [], harness := (true, "f45bf6a8ffdc3694300a53dde87e90b74f249ff98f1146963ee00b844779babd"), looks := false }, kinds := [], alts := [], laidByText := true, laidKinds := [.sentinel, .sentinel, .sentinel, .sentinel, .sentinel, .sentinel, .sentinel, .sentinel, .sentinel, .sentinel, .sentinel, .sentinel, .sentinel, .sentinel, .sentinel, .sentinel, .sentinel, .sentinel, .sentinel, .sentinel, .sentinel], laidTests := true, laidLooks := .later }
def GmatchQuotedUptoCardSaid : Prop := Claim7.holds Tryd.pinned (.plain (OpenSpec.upto gmatchQuotedSpec)) gmatchQuotedUptoCard

/-- THE SECOND FORM's CARD OF 'pidginlaw7.GmatchStars'. -/
def gmatchStarsUptoCard : Claim7 := { stood := { row := gmatchStarsUptoRow, standIns := [], harness := (true, "f45bf6a8ffdc3694300a53dde87e90b74f249ff98f1146963ee00b844779babd"), looks := false }, kinds := [], alts := [], laidByText := true, laidKinds := [.sentinel, .sentinel, .sentinel, .sentinel, .sentinel, .sentinel, .sentinel, .sentinel, .sentinel, .sentinel, .sentinel, .sentinel, .sentinel, .sentinel, .sentinel, .sentinel, .sentinel, .sentinel, .sentinel, .sentinel, .sentinel], laidTests := true, laidLooks := .later }
def GmatchStarsUptoCardSaid : Prop := Claim7.holds Tryd.pinned (.plain (OpenSpec.upto gmatchStarsSpec)) gmatchStarsUptoCard

/-- THE SECOND FORM's CARD OF 'pidginlaw7.GmatchMatches'. -/
def gmatchMatchesUptoCard : Claim7 := { stood := { row := gmatchMatchesUptoRow, standIns := [], harness := (true, "f45bf6a8ffdc3694300a53dde87e90b74f249ff98f1146963ee00b844779babd"), looks := false }, kinds := [], alts := [], laidByText := true, laidKinds := [.sentinel, .sentinel, .sentinel, .sentinel, .sentinel, .sentinel, .sentinel, .sentinel, .sentinel, .sentinel, .sentinel, .sentinel, .sentinel, .sentinel, .sentinel, .sentinel, .sentinel, .sentinel, .sentinel, .sentinel, .sentinel], laidTests := true, laidLooks := .later }
def GmatchMatchesUptoCardSaid : Prop := Claim7.holds Tryd.pinned (.plain (OpenSpec.upto gmatchMatchesSpec)) gmatchMatchesUptoCard

/-- THE SECOND FORM's CARD OF 'pidginlaw7.GmatchWhole'. -/
def gmatchWholeUptoCard : Claim7 := { stood := { row := gmatchWholeUptoRow, standIns := [], harness := (true, "f45bf6a8ffdc3694300a53dde87e90b74f249ff98f1146963ee00b844779babd"), looks := false }, kinds := [], alts := [], laidByText := true, laidKinds := [.sentinel, .sentinel, .sentinel, .sentinel, .sentinel, .sentinel, .sentinel, .sentinel, .sentinel, .sentinel, .sentinel, .sentinel, .sentinel, .sentinel, .sentinel, .sentinel, .sentinel, .sentinel, .sentinel, .sentinel, .sentinel], laidTests := true, laidLooks := .later }
def GmatchWholeUptoCardSaid : Prop := Claim7.holds Tryd.pinned (.plain (OpenSpec.upto gmatchWholeSpec)) gmatchWholeUptoCard

/-- THE SECOND FORM's CARD OF 'pidginlaw7.GmatchCuts'. -/
def gmatchCutsUptoCard : Claim7 := { stood := { row := gmatchCutsUptoRow, standIns := [], harness := (true, "f45bf6a8ffdc3694300a53dde87e90b74f249ff98f1146963ee00b844779babd"), looks := false }, kinds := [], alts := [], laidByText := true, laidKinds := [.sentinel, .sentinel, .sentinel, .sentinel, .sentinel, .sentinel, .sentinel, .sentinel, .sentinel, .sentinel, .sentinel, .sentinel, .sentinel, .sentinel, .sentinel, .sentinel, .sentinel, .sentinel, .sentinel, .sentinel, .sentinel], laidTests := true, laidLooks := .later }
def GmatchCutsUptoCardSaid : Prop := Claim7.holds Tryd.pinned (.plain (OpenSpec.upto gmatchCutsSpec)) gmatchCutsUptoCard

/-- THE SECOND FORM's CARD OF 'pidginlaw7.GmatchSelects'. -/
def gmatchSelectsUptoCard : Claim7 := { stood := { row := gmatchSelectsUptoRow, standIns := [], harness := (true, "f45bf6a8ffdc3694300a53dde87e90b74f249ff98f1146963ee00b844779babd"), looks := false }, kinds := [], alts := [], laidByText := true, laidKinds := [.sentinel, .sentinel, .sentinel, .sentinel, .sentinel, .sentinel, .sentinel, .sentinel, .sentinel, .sentinel, .sentinel, .sentinel, .sentinel, .sentinel, .sentinel, .sentinel, .sentinel, .sentinel, .sentinel, .sentinel, .sentinel], laidTests := true, laidLooks := .later }
def GmatchSelectsUptoCardSaid : Prop := Claim7.holds Tryd.pinned (.plain (OpenSpec.upto gmatchSelectsSpec)) gmatchSelectsUptoCard

/-- THE SECOND FORM's CARD OF 'pidginlaw7.GmatchNil'. -/
def gmatchNilUptoCard : Claim7 := { stood := { row := gmatchNilUptoRow, standIns := [], harness := (true, "f45bf6a8ffdc3694300a53dde87e90b74f249ff98f1146963ee00b844779babd"), looks := false }, kinds := [], alts := [], laidByText := true, laidKinds := [.sentinel, .sentinel, .sentinel, .sentinel, .sentinel, .sentinel, .sentinel, .sentinel, .sentinel, .sentinel, .sentinel, .sentinel, .sentinel, .sentinel, .sentinel, .sentinel, .sentinel, .sentinel, .sentinel, .sentinel, .sentinel], laidTests := true, laidLooks := .later }
def GmatchNilUptoCardSaid : Prop := Claim7.holds Tryd.pinned (.plain (OpenSpec.upto gmatchNilSpec)) gmatchNilUptoCard
end Rows
end Go.Proofs.YtafmhhhboihdfaaDoor
