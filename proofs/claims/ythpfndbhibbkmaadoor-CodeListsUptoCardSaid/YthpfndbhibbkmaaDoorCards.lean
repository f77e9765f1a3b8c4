/-
  DERIVED. GIVEN WITH THE SEED: THE CARDS: each row of YthpfndbhibbkmaaDoorRows.lean that lists a variable, with what it lists TIED to the program's text (the seventh form; the later family's looks); each row that meets fmt, with fmt's text TOLD by the authors' own Lean function (tested against real Go, not proved from fmt's source: count such statements apart). THE CARD IS WHAT COUNTS. Prove the row's statement (the work); the ties are given (YthpfndbhibbkmaaDoorTie.lean); close each card by the builder's one call (the guide's Derived/Test/ToyasCard.lean, 'card_holds'). Laid BY PROGRAM, IN A SANDBOX (cutbox-door.mjs). By AI agents, Wed Nov 11 2026. No macro, syntax, notation, axiom, sorry.
-/
import Derived.Test.YthpfndbhibbkmaaDoorRows
import GoSem.ClaimSeven
namespace Go.Proofs.YthpfndbhibbkmaaDoor
namespace Rows

/-- THE TIED CARD OF 'scruplelaw08.CodeNames'. -/
def codeNamesCard : Claim7 := { stood := { row := codeNamesRow, standIns := [], harness := (true, "b8aef89c43417853c10c80634bae31afcd4e3f2088365c095c4eb37d15942cff"), looks := false }, kinds := [], alts := [], laidByText := true, laidKinds := [.data, .data], laidTests := true, laidLooks := .later }
def CodeNamesCardSaid : Prop := Claim7.holds Tryd.pinned (.plain (OpenSpec.ofChange codeNamesSpec)) codeNamesCard

/-- THE TIED CARD OF 'scruplelaw11.GasCosts'. -/
def gasCostsCard : Claim7 := { stood := { row := gasCostsRow, standIns := [], harness := (true, "b8aef89c43417853c10c80634bae31afcd4e3f2088365c095c4eb37d15942cff"), looks := false }, kinds := [], alts := [], laidByText := true, laidKinds := [.data, .data], laidTests := true, laidLooks := .later }
def GasCostsCardSaid : Prop := Claim7.holds Tryd.pinned (.plain (OpenSpec.ofChange gasCostsSpec)) gasCostsCard

/-- THE TIED CARD OF 'scruplelaw08.CodePuts'. -/
def codePutsCard : Claim7 := { stood := { row := codePutsRow, standIns := [], harness := (true, "b8aef89c43417853c10c80634bae31afcd4e3f2088365c095c4eb37d15942cff"), looks := false }, kinds := [], alts := [], laidByText := true, laidKinds := [.data, .data], laidTests := true, laidLooks := .later }
def CodePutsCardSaid : Prop := Claim7.holds Tryd.pinned (.plain (OpenSpec.ofChange codePutsSpec)) codePutsCard

/-- THE TIED CARD OF 'scruplelaw08.CodeInfos'. -/
def codeInfosCard : Claim7 := { stood := { row := codeInfosRow, standIns := [], harness := (true, "b8aef89c43417853c10c80634bae31afcd4e3f2088365c095c4eb37d15942cff"), looks := false }, kinds := [], alts := [], laidByText := true, laidKinds := [.data, .data], laidTests := true, laidLooks := .later }
def CodeInfosCardSaid : Prop := Claim7.holds Tryd.pinned (.plain (OpenSpec.ofChange codeInfosSpec)) codeInfosCard

/-- THE TIED CARD OF 'scruplelaw08.CodeTakes'. -/
def codeTakesCard : Claim7 := { stood := { row := codeTakesRow, standIns := [], harness := (true, "b8aef89c43417853c10c80634bae31afcd4e3f2088365c095c4eb37d15942cff"), looks := false }, kinds := [], alts := [], laidByText := true, laidKinds := [.data, .data], laidTests := true, laidLooks := .later }
def CodeTakesCardSaid : Prop := Claim7.holds Tryd.pinned (.plain (OpenSpec.ofChange codeTakesSpec)) codeTakesCard

/-- THE TIED CARD OF 'scruplelaw08.CodeLists'. -/
def codeListsCard : Claim7 := { stood := { row := codeListsRow, standIns := [], harness := (true, "b8aef89c43417853c10c80634bae31afcd4e3f2088365c095c4eb37d15942cff"), looks := false }, kinds := [], alts := [], laidByText := true, laidKinds := [.data, .data], laidTests := true, laidLooks := .later }
def CodeListsCardSaid : Prop := Claim7.holds Tryd.pinned (.plain (OpenSpec.ofChange codeListsSpec)) codeListsCard

/-- THE TIED CARD OF 'scruplelaw08.CodeBack'. -/
def codeBackCard : Claim7 := { stood := { row := codeBackRow, standIns := [], harness := (true, "b8aef89c43417853c10c80634bae31afcd4e3f2088365c095c4eb37d15942cff"), looks := false }, kinds := [], alts := [], laidByText := true, laidKinds := [.data, .data], laidTests := true, laidLooks := .later }
def CodeBackCardSaid : Prop := Claim7.holds Tryd.pinned (.plain (OpenSpec.ofChange codeBackSpec)) codeBackCard

/-- THE TIED CARD OF 'scruplelaw08.CodeOne'. -/
def codeOneCard : Claim7 := { stood := { row := codeOneRow, standIns := [], harness := (true, "b8aef89c43417853c10c80634bae31afcd4e3f2088365c095c4eb37d15942cff"), looks := false }, kinds := [], alts := [], laidByText := true, laidKinds := [.data, .data], laidTests := true, laidLooks := .later }
def CodeOneCardSaid : Prop := Claim7.holds Tryd.pinned (.plain (OpenSpec.ofChange codeOneSpec)) codeOneCard

/-- THE SECOND FORM's CARD OF 'scruplelaw08.CodeNames'. -/
def codeNamesUptoCard : Claim7 := { stood := { row := codeNamesUptoRow, standIns := [], harness := (true, "b8aef89c43417853c10c80634bae31afcd4e3f2088365c095c4eb37d15942cff"), looks := false }, kinds := [], alts := [], laidByText := true, laidKinds := [.data, .data], laidTests := true, laidLooks := .later }
def CodeNamesUptoCardSaid : Prop := Claim7.holds Tryd.pinned (.plain (OpenSpec.upto codeNamesSpec)) codeNamesUptoCard

/-- THE SECOND FORM's CARD OF 'scruplelaw11.GasCosts'. -/
def gasCostsUptoCard : Claim7 := { stood := { row := gasCostsUptoRow, standIns := [], harness := (true, "b8aef89c43417853c10c80634bae31afcd4e3f2088365c095c4eb37d15942cff"), looks := false }, kinds := [], alts := [], laidByText := true, laidKinds := [.data, .data], laidTests := true, laidLooks := .later }
def GasCostsUptoCardSaid : Prop := Claim7.holds Tryd.pinned (.plain (OpenSpec.upto gasCostsSpec)) gasCostsUptoCard

/-- THE SECOND FORM's CARD OF 'scruplelaw08.CodePuts'. -/
def codePutsUptoCard : Claim7 := { stood := { row := codePutsUptoRow, standIns := [], harness := (true, "b8aef89c43417853c10c80634bae31afcd4e3f2088365c095c4eb37d15942cff"), looks := false }, kinds := [], alts := [], laidByText := true, laidKinds := [.data, .data], laidTests := true, laidLooks := .later }
def CodePutsUptoCardSaid : Prop := Claim7.holds Tryd.pinned (.plain (OpenSpec.upto codePutsSpec)) codePutsUptoCard

/-- THE SECOND FORM's CARD OF 'scruplelaw08.CodeInfos'. -/
def codeInfosUptoCard : Claim7 := { stood := { row := codeInfosUptoRow, standIns := [], harness := (true, "b8aef89c43417853c10c80634bae31afcd4e3f2088365c095c4eb37d15942cff"), looks := false }, kinds := [], alts := [], laidByText := true, laidKinds := [.data, .data], laidTests := true, laidLooks := .later }
def CodeInfosUptoCardSaid : Prop := Claim7.holds Tryd.pinned (.plain (OpenSpec.upto codeInfosSpec)) codeInfosUptoCard

/-- THE SECOND FORM's CARD OF 'scruplelaw08.CodeTakes'. -/
def codeTakesUptoCard : Claim7 := { stood := { row := codeTakesUptoRow, standIns := [], harness := (true, "b8aef89c43417853c10c80634bae31afcd4e3f2088365c095c4eb37d15942cff"), looks := false }, kinds := [], alts := [], laidByText := true, laidKinds := [.data, .data], laidTests := true, laidLooks := .later }
def CodeTakesUptoCardSaid : Prop := Claim7.holds Tryd.pinned (.plain (OpenSpec.upto codeTakesSpec)) codeTakesUptoCard

/-- THE SECOND FORM's CARD OF 'scruplelaw08.CodeLists'. -/
def codeListsUptoCard : Claim7 := { stood := { row := codeListsUptoRow, standIns := [], harness := (true, "b8aef89c43417853c10c80634bae31afcd4e3f2088365c095c4eb37d15942cff"), looks := false }, kinds := [], alts := [], laidByText := true, laidKinds := [.data, .data], laidTests := true, laidLooks := .later }
def CodeListsUptoCardSaid : Prop := Claim7.holds Tryd.pinned (.plain (OpenSpec.upto codeListsSpec)) codeListsUptoCard

/-- THE SECOND FORM's CARD OF 'scruplelaw08.CodeBack'. -/
def codeBackUptoCard : Claim7 := { stood := { row := codeBackUptoRow, standIns := [], harness := (true, "b8aef89c43417853c10c80634bae31afcd4e3f2088365c095c4eb37d15942cff"), looks := false }, kinds := [], alts := [], laidByText := true, laidKinds := [.data, .data], laidTests := true, laidLooks := .later }
def CodeBackUptoCardSaid : Prop := Claim7.holds Tryd.pinned (.plain (OpenSpec.upto codeBackSpec)) codeBackUptoCard

/-- THE SECOND FORM's CARD OF 'scruplelaw08.CodeOne'. -/
def codeOneUptoCard : Claim7 := { stood := { row := codeOneUptoRow, standIns := [], harness := (true, "b8aef89c43417853c10c80634bae31afcd4e3f2088365c095c4eb37d15942cff"), looks := false }, kinds := [], alts := [], laidByText := true, laidKinds := [.data, .data], laidTests := true, laidLooks := .later }
def CodeOneUptoCardSaid : Prop := Claim7.holds Tryd.pinned (.plain (OpenSpec.upto codeOneSpec)) codeOneUptoCard
end Rows
end Go.Proofs.YthpfndbhibbkmaaDoor
