/-
  DERIVED. GIVEN WITH THE SEED: THE CARDS: each row of YtlnafmibopkilaaDoorRows.lean that lists a variable, with what it lists TIED to the program's text (the seventh form; the later family's looks); each row that meets fmt, with fmt's text TOLD by the authors' own Lean function (tested against real Go, not proved from fmt's source: count such statements apart). THE CARD IS WHAT COUNTS. Prove the row's statement (the work); the ties are given (YtlnafmibopkilaaDoorTie.lean); close each card by the builder's one call (the guide's Derived/Test/ToyasCard.lean, 'card_holds'). Laid BY PROGRAM, IN A SANDBOX (cutbox-door.mjs). By AI agents, Wed Nov 11 2026. No macro, syntax, notation, axiom, sorry.
-/
import Derived.Test.YtlnafmibopkilaaDoorRows
import GoSem.ClaimSeven
namespace Go.Proofs.YtlnafmibopkilaaDoor
namespace Rows

/-- THE TIED CARD OF 'spoorlaw01.NameTells'. -/
def nameTellsCard : Claim7 := { stood := { row := nameTellsRow, standIns := [], harness := (true, "e87524b28df54db6abd73cd6b22ccdf18ed96f264cd47fd433a7344565c8714c"), looks := true }, kinds := [], alts := [], laidByText := true, laidKinds := [.data, .data, .data, .data, .sentinel, .sentinel, .pinned], laidTests := true, laidLooks := .later }
def NameTellsCardSaid : Prop := Claim7.holds Tryd.pinned (.plain (OpenSpec.ofChange nameTellsSpec)) nameTellsCard

/-- THE TIED CARD OF 'spoorlaw01.NameQuotes'. -/
def nameQuotesCard : Claim7 := { stood := { row := nameQuotesRow, standIns := [], harness := (true, "e87524b28df54db6abd73cd6b22ccdf18ed96f264cd47fd433a7344565c8714c"), looks := true }, kinds := [], alts := [], laidByText := true, laidKinds := [.data, .data, .data, .data, .sentinel, .sentinel, .pinned], laidTests := true, laidLooks := .later }
def NameQuotesCardSaid : Prop := Claim7.holds Tryd.pinned (.plain (OpenSpec.ofChange nameQuotesSpec)) nameQuotesCard

/-- THE TIED CARD OF 'spoorlaw01.NameUnquotes'. -/
def nameUnquotesCard : Claim7 := { stood := { row := nameUnquotesRow, standIns := [], harness := (true, "e87524b28df54db6abd73cd6b22ccdf18ed96f264cd47fd433a7344565c8714c"), looks := true }, kinds := [], alts := [], laidByText := true, laidKinds := [.data, .data, .data, .data, .sentinel, .sentinel, .pinned], laidTests := true, laidLooks := .later }
def NameUnquotesCardSaid : Prop := Claim7.holds Tryd.pinned (.plain (OpenSpec.ofChange nameUnquotesSpec)) nameUnquotesCard

/-- THE TIED CARD OF 'spoorlaw01.NameOrder'. -/
def nameOrderCard : Claim7 := { stood := { row := nameOrderRow, standIns := [], harness := (true, "e87524b28df54db6abd73cd6b22ccdf18ed96f264cd47fd433a7344565c8714c"), looks := true }, kinds := [], alts := [], laidByText := true, laidKinds := [.data, .data, .data, .data, .sentinel, .sentinel, .pinned], laidTests := true, laidLooks := .later }
def NameOrderCardSaid : Prop := Claim7.holds Tryd.pinned (.plain (OpenSpec.ofChange nameOrderSpec)) nameOrderCard

/-- THE TIED CARD OF 'spoorlaw01.NameCuts'. -/
def nameCutsCard : Claim7 := { stood := { row := nameCutsRow, standIns := [], harness := (true, "e87524b28df54db6abd73cd6b22ccdf18ed96f264cd47fd433a7344565c8714c"), looks := true }, kinds := [], alts := [], laidByText := true, laidKinds := [.data, .data, .data, .data, .sentinel, .sentinel, .pinned], laidTests := true, laidLooks := .later }
def NameCutsCardSaid : Prop := Claim7.holds Tryd.pinned (.plain (OpenSpec.ofChange nameCutsSpec)) nameCutsCard

/-- THE TIED CARD OF 'spoorlaw01.NameJoins'. -/
def nameJoinsCard : Claim7 := { stood := { row := nameJoinsRow, standIns := [], harness := (true, "e87524b28df54db6abd73cd6b22ccdf18ed96f264cd47fd433a7344565c8714c"), looks := true }, kinds := [], alts := [], laidByText := true, laidKinds := [.data, .data, .data, .data, .sentinel, .sentinel, .pinned], laidTests := true, laidLooks := .later }
def NameJoinsCardSaid : Prop := Claim7.holds Tryd.pinned (.plain (OpenSpec.ofChange nameJoinsSpec)) nameJoinsCard

/-- THE TIED CARD OF 'spoorlaw01.NameRead'. -/
def nameReadCard : Claim7 := { stood := { row := nameReadRow, standIns := [], harness := (true, "e87524b28df54db6abd73cd6b22ccdf18ed96f264cd47fd433a7344565c8714c"), looks := true }, kinds := [], alts := [], laidByText := true, laidKinds := [.data, .data, .data, .data, .sentinel, .sentinel, .pinned], laidTests := true, laidLooks := .later }
def NameReadCardSaid : Prop := Claim7.holds Tryd.pinned (.plain (OpenSpec.ofChange nameReadSpec)) nameReadCard

/-- THE SECOND FORM's CARD OF 'spoorlaw01.NameTells'. -/
def nameTellsUptoCard : Claim7 := { stood := { row := nameTellsUptoRow, standIns := [], harness := (true, "e87524b28df54db6abd73cd6b22ccdf18ed96f264cd47fd433a7344565c8714c"), looks := true }, kinds := [], alts := [], laidByText := true, laidKinds := [.data, .data, .data, .data, .sentinel, .sentinel, .pinned], laidTests := true, laidLooks := .later }
def NameTellsUptoCardSaid : Prop := Claim7.holds Tryd.pinned (.plain (OpenSpec.upto nameTellsSpec)) nameTellsUptoCard

/-- THE SECOND FORM's CARD OF 'spoorlaw01.NameQuotes'. -/
def nameQuotesUptoCard : Claim7 := { stood := { row := nameQuotesUptoRow, standIns := [], harness := (true, "e87524b28df54db6abd73cd6b22ccdf18ed96f264cd47fd433a7344565c8714c"), looks := true }, kinds := [], alts := [], laidByText := true, laidKinds := [.data, .data, .data, .data, .sentinel, .sentinel, .pinned], laidTests := true, laidLooks := .later }
def NameQuotesUptoCardSaid : Prop := Claim7.holds Tryd.pinned (.plain (OpenSpec.upto nameQuotesSpec)) nameQuotesUptoCard

/-- THE SECOND FORM's CARD OF 'spoorlaw01.NameUnquotes'. -/
def nameUnquotesUptoCard : Claim7 := { stood := { row := nameUnquotesUptoRow, standIns := [], harness := (true, "e87524b28df54db6abd73cd6b22ccdf18ed96f264cd47fd433a7344565c8714c"), looks := true }, kinds := [], alts := [], laidByText := true, laidKinds := [.data, .data, .data, .data, .sentinel, .sentinel, .pinned], laidTests := true, laidLooks := .later }
def NameUnquotesUptoCardSaid : Prop := Claim7.holds Tryd.pinned (.plain (OpenSpec.upto nameUnquotesSpec)) nameUnquotesUptoCard

/-- THE SECOND FORM's CARD OF 'spoorlaw01.NameOrder'. -/
def nameOrderUptoCard : Claim7 := { stood := { row := nameOrderUptoRow, standIns := [], harness := (true, "e87524b28df54db6abd73cd6b22ccdf18ed96f264cd47fd433a7344565c8714c"), looks := true }, kinds := [], alts := [], laidByText := true, laidKinds := [.data, .data, .data, .data, .sentinel, .sentinel, .pinned], laidTests := true, laidLooks := .later }
def NameOrderUptoCardSaid : Prop := Claim7.holds Tryd.pinned (.plain (OpenSpec.upto nameOrderSpec)) nameOrderUptoCard

/-- THE SECOND FORM's CARD OF 'spoorlaw01.NameCuts'. -/
def nameCutsUptoCard : Claim7 := { stood := { row := nameCutsUptoRow, standIns := [], harness := (true, "e87524b28df54db6abd73cd6b22ccdf18ed96f264cd47fd433a7344565c8714c"), looks := true }, kinds := [], alts := [], laidByText := true, laidKinds := [.data, .data, .data, .data, .sentinel, .sentinel, .pinned], laidTests := true, laidLooks := .later }
def NameCutsUptoCardSaid : Prop := Claim7.holds Tryd.pinned (.plain (OpenSpec.upto nameCutsSpec)) nameCutsUptoCard

/-- THE SECOND FORM's CARD OF 'spoorlaw01.NameJoins'. -/
def nameJoinsUptoCard : Claim7 := { stood := { row := nameJoinsUptoRow, standIns := [], harness := (true, "e87524b28df54db6abd73cd6b22ccdf18ed96f264cd47fd433a7344565c8714c"), looks := true }, kinds := [], alts := [], laidByText := true, laidKinds := [.data, .data, .data, .data, .sentinel, .sentinel, .pinned], laidTests := true, laidLooks := .later }
def NameJoinsUptoCardSaid : Prop := Claim7.holds Tryd.pinned (.plain (OpenSpec.upto nameJoinsSpec)) nameJoinsUptoCard

/-- THE SECOND FORM's CARD OF 'spoorlaw01.NameRead'. -/
def nameReadUptoCard : Claim7 := { stood := { row := nameReadUptoRow, standIns := [], harness := (true, "e87524b28df54db6abd73cd6b22ccdf18ed96f264cd47fd433a7344565c8714c"), looks := true }, kinds := [], alts := [], laidByText := true, laidKinds := [.data, .data, .data, .data, .sentinel, .sentinel, .pinned], laidTests := true, laidLooks := .later }
def NameReadUptoCardSaid : Prop := Claim7.holds Tryd.pinned (.plain (OpenSpec.upto nameReadSpec)) nameReadUptoCard
end Rows
end Go.Proofs.YtlnafmibopkilaaDoor
