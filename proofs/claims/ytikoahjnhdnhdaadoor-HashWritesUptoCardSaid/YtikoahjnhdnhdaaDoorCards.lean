/-
  DERIVED. GIVEN WITH THE SEED: THE CARDS: each row of YtikoahjnhdnhdaaDoorRows.lean that lists a variable, with what it lists TIED to the program's text (the seventh form; the later family's looks); each row that meets fmt, with fmt's text TOLD by the authors' own Lean function (tested against real Go, not proved from fmt's source: count such statements apart). THE CARD IS WHAT COUNTS. Prove the row's statement (the work); the ties are given (YtikoahjnhdnhdaaDoorTie.lean); close each card by the builder's one call (the guide's Derived/Test/ToyasCard.lean, 'card_holds'). Laid BY PROGRAM, IN A SANDBOX (cutbox-door.mjs). By AI agents, Wed Nov 11 2026. No macro, syntax, notation, axiom, sorry.
-/
import Derived.Test.YtikoahjnhdnhdaaDoorRows
import GoSem.ClaimSeven
namespace Go.Proofs.YtikoahjnhdnhdaaDoor
namespace Rows

/-- THE TIED CARD OF 'scruplelaw02.HashSums'. -/
def hashSumsCard : Claim7 := { stood := { row := hashSumsRow, standIns := [], harness := (true, "20007200613e3a0a87d270ccba361a9b58fa6338aacb985a7bf1e34a04ced735"), looks := false }, kinds := [], alts := [], laidByText := true, laidKinds := [.data], laidTests := true, laidLooks := .later }
def HashSumsCardSaid : Prop := Claim7.holds Tryd.pinned (.plain (OpenSpec.ofChange hashSumsSpec)) hashSumsCard

/-- THE TIED CARD OF 'scruplelaw02.HashPieces'. -/
def hashPiecesCard : Claim7 := { stood := { row := hashPiecesRow, standIns := [], harness := (true, "20007200613e3a0a87d270ccba361a9b58fa6338aacb985a7bf1e34a04ced735"), looks := false }, kinds := [], alts := [], laidByText := true, laidKinds := [.data], laidTests := true, laidLooks := .later }
def HashPiecesCardSaid : Prop := Claim7.holds Tryd.pinned (.plain (OpenSpec.ofChange hashPiecesSpec)) hashPiecesCard

/-- THE TIED CARD OF 'scruplelaw02.HashWrites'. -/
def hashWritesCard : Claim7 := { stood := { row := hashWritesRow, standIns := [], harness := (true, "20007200613e3a0a87d270ccba361a9b58fa6338aacb985a7bf1e34a04ced735"), looks := false }, kinds := [], alts := [], laidByText := true, laidKinds := [.data], laidTests := true, laidLooks := .later }
def HashWritesCardSaid : Prop := Claim7.holds Tryd.pinned (.plain (OpenSpec.ofChange hashWritesSpec)) hashWritesCard

/-- THE TIED CARD OF 'scruplelaw02.HashForks'. -/
def hashForksCard : Claim7 := { stood := { row := hashForksRow, standIns := [], harness := (true, "20007200613e3a0a87d270ccba361a9b58fa6338aacb985a7bf1e34a04ced735"), looks := false }, kinds := [], alts := [], laidByText := true, laidKinds := [.data], laidTests := true, laidLooks := .later }
def HashForksCardSaid : Prop := Claim7.holds Tryd.pinned (.plain (OpenSpec.ofChange hashForksSpec)) hashForksCard

/-- THE SECOND FORM's CARD OF 'scruplelaw02.HashSums'. -/
def hashSumsUptoCard : Claim7 := { stood := { row := hashSumsUptoRow, standIns := [], harness := (true, "20007200613e3a0a87d270ccba361a9b58fa6338aacb985a7bf1e34a04ced735"), looks := false }, kinds := [], alts := [], laidByText := true, laidKinds := [.data], laidTests := true, laidLooks := .later }
def HashSumsUptoCardSaid : Prop := Claim7.holds Tryd.pinned (.plain (OpenSpec.upto hashSumsSpec)) hashSumsUptoCard

/-- THE SECOND FORM's CARD OF 'scruplelaw02.HashPieces'. -/
def hashPiecesUptoCard : Claim7 := { stood := { row := hashPiecesUptoRow, standIns := [], harness := (true, "20007200613e3a0a87d270ccba361a9b58fa6338aacb985a7bf1e34a04ced735"), looks := false }, kinds := [], alts := [], laidByText := true, laidKinds := [.data], laidTests := true, laidLooks := .later }
def HashPiecesUptoCardSaid : Prop := Claim7.holds Tryd.pinned (.plain (OpenSpec.upto hashPiecesSpec)) hashPiecesUptoCard

/-- THE SECOND FORM's CARD OF 'scruplelaw02.HashWrites'. -/
def hashWritesUptoCard : Claim7 := { stood := { row := hashWritesUptoRow, standIns := [], harness := (true, "20007200613e3a0a87d270ccba361a9b58fa6338aacb985a7bf1e34a04ced735"), looks := false }, kinds := [], alts := [], laidByText := true, laidKinds := [.data], laidTests := true, laidLooks := .later }
def HashWritesUptoCardSaid : Prop := Claim7.holds Tryd.pinned (.plain (OpenSpec.upto hashWritesSpec)) hashWritesUptoCard

/-- THE SECOND FORM's CARD OF 'scruplelaw02.HashForks'. -/
def hashForksUptoCard : Claim7 := { stood := { row := hashForksUptoRow, standIns := [], harness := (true, "20007200613e3a0a87d270ccba361a9b58fa6338aacb985a7bf1e34a04ced735"), looks := false }, kinds := [], alts := [], laidByText := true, laidKinds := [.data], laidTests := true, laidLooks := .later }
def HashForksUptoCardSaid : Prop := Claim7.holds Tryd.pinned (.plain (OpenSpec.upto hashForksSpec)) hashForksUptoCard
end Rows
end Go.Proofs.YtikoahjnhdnhdaaDoor
