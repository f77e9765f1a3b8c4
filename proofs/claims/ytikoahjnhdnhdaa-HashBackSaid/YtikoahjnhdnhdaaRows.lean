/-
  No cell of these rows narrows 'for every input' (looked for: loops, veiled, ifaces, maps, wideKeys, modest, calm, conditions, laid).
  DERIVED. THE GIVEN ROWS OF THIS SEAT. 3 by the template 'for every input the law returns true; each argument reads behind the call as it read before'; 0 by the template 'total and deterministic' (their statements: YtikoahjnhdnhdaaTotals.lean).
  GIVEN WITH THE SEED: the statements are not yours to turn. If you find one false, say at which input.
  Laid BY PROGRAM, IN A SANDBOX (cutbox-rows.mjs): the forced cells as the released guide's own fill.sh prints them over the translation a0639477682e8a3c… (all of the seat's roots in one cut). By AI agents, Wed Nov 11 2026. No macro, syntax, notation, axiom, sorry.
-/
import Derived.Test.YtikoahjnhdnhdaaChecked
import GoSem.Claim
import GoSem.ClaimJoined
import GoSem.ClaimMapViews
import Derived.JoinedTies
import Derived.KernelRfl
namespace Go.Proofs.Ytikoahjnhdnhdaa
/- THE CELL 'sum', in the pinned program and in every row, IS THE sha256 OF THE DUMP (.gsa) THAT YtikoahjnhdnhdaaProg.lean LOADS. Nothing in Lean hashes anything: it is a label: what it is worth is what the hold of that sum in a sandbox is worth. -/
noncomputable def Try.pinned : Pinned := { name := "ytikoahjnhdnhdaa", sum := "a0639477682e8a3cb8bbb6bb146a2311860b306dfa25fddea5a7adcc86ba042f", checked := Try.checked }
namespace Rows
def none {H : Type} : Left H := { results := [], args := [] }

/-- 'scruplelaw02.HashHexes': WHATEVER THE INPUT: true; the input reads as it did. -/
def hashHexesSpec : ChangeSpec := { name := "hashHexes", fn := fun _ => fun
  | [d] => { results := [.lit (.bool true)], args := [d] }
  | _ => none }
def hashHexesRow : OpenClaim := { program := "ytikoahjnhdnhdaa", sum := "a0639477682e8a3cb8bbb6bb146a2311860b306dfa25fddea5a7adcc86ba042f", func := "scruple/scruplelaw02.HashHexes", spec := "hashHexes", apart := false }
def HashHexesSaid : Prop := hashHexesRow.holds Try.pinned (OpenSpec.ofChange hashHexesSpec)

/-- ITS FALSE NEIGHBOUR: 'it returns false'. Refute it at one input. -/
def hashHexesWrong : ChangeSpec := { name := "hashHexes", fn := fun _ => fun
  | [d] => { results := [.lit (.bool false)], args := [d] }
  | _ => none }
def HashHexesWrongFalsely : Prop := hashHexesRow.holds Try.pinned (OpenSpec.ofChange hashHexesWrong)

/-- 'scruplelaw02.HashUnhexes': WHATEVER THE INPUT: true; the input reads as it did. -/
def hashUnhexesSpec : ChangeSpec := { name := "hashUnhexes", fn := fun _ => fun
  | [d] => { results := [.lit (.bool true)], args := [d] }
  | _ => none }
def hashUnhexesRow : OpenClaim := { program := "ytikoahjnhdnhdaa", sum := "a0639477682e8a3cb8bbb6bb146a2311860b306dfa25fddea5a7adcc86ba042f", func := "scruple/scruplelaw02.HashUnhexes", spec := "hashUnhexes", apart := false }
def HashUnhexesSaid : Prop := hashUnhexesRow.holds Try.pinned (OpenSpec.ofChange hashUnhexesSpec)

/-- ITS FALSE NEIGHBOUR: 'it returns false'. Refute it at one input. -/
def hashUnhexesWrong : ChangeSpec := { name := "hashUnhexes", fn := fun _ => fun
  | [d] => { results := [.lit (.bool false)], args := [d] }
  | _ => none }
def HashUnhexesWrongFalsely : Prop := hashUnhexesRow.holds Try.pinned (OpenSpec.ofChange hashUnhexesWrong)

/-- 'scruplelaw02.HashBack': WHATEVER THE INPUT: true; the input reads as it did. -/
def hashBackSpec : ChangeSpec := { name := "hashBack", fn := fun _ => fun
  | [d1, d2, d3] => { results := [.lit (.bool true)], args := [d1, d2, d3] }
  | _ => none }
def hashBackRow : OpenClaim := { program := "ytikoahjnhdnhdaa", sum := "a0639477682e8a3cb8bbb6bb146a2311860b306dfa25fddea5a7adcc86ba042f", func := "scruple/scruplelaw02.HashBack", spec := "hashBack", apart := false }
def HashBackSaid : Prop := hashBackRow.holds Try.pinned (OpenSpec.ofChange hashBackSpec)

/-- ITS FALSE NEIGHBOUR: 'it returns false'. Refute it at one input. -/
def hashBackWrong : ChangeSpec := { name := "hashBack", fn := fun _ => fun
  | [d1, d2, d3] => { results := [.lit (.bool false)], args := [d1, d2, d3] }
  | _ => none }
def HashBackWrongFalsely : Prop := hashBackRow.holds Try.pinned (OpenSpec.ofChange hashBackWrong)

/- THE SECOND FORM. 'bulk': how many values and letters a reading holds, each counted each time it is reached (what is shared counts as often as it is met; a slice's spare places count too). A statement '..UptoSaid' is the law's where the arguments, and the package variables that the reading takes, are together of bulk at most 1048576: NARROWER than '..Said'. Prove '..Said' where nothing that the law and all that it calls make is longer than what came in: it says more and counts as full. Else prove '..UptoSaid'. A law counts once. -/
mutual
def uptoBulk {H : Type} : DataW H → Nat
  | .lit (.string bytes) => bytes.length + 1
  | .lit _ => 1
  | .nil => 1
  | .ptr d => uptoBulk d + 1
  | .slice elems spare => uptoBulkAll elems + uptoBulkAll spare + 1
  | .agg parts => uptoBulkAll parts + 1
  | .iface _ d => uptoBulk d + 1
  | .map entries => uptoBulkEntries entries + 1
  | .held _ => 1
def uptoBulkAll {H : Type} : List (DataW H) → Nat
  | [] => 0
  | d :: r => uptoBulk d + uptoBulkAll r
def uptoBulkEntries {H : Type} : List (Lit × DataW H) → Nat
  | [] => 0
  | x :: r => uptoBulkEntry x + uptoBulkEntries r
def uptoBulkEntry {H : Type} : Lit × DataW H → Nat
  | (.string bytes, d) => bytes.length + uptoBulk d + 1
  | (_, d) => uptoBulk d + 1
 end
def uptoSmall : (H : Type) → List (DataW H) → Bool := fun _ ds => decide (uptoBulkAll ds ≤ 1048576)
def OpenSpec.upto (s : _root_.Go.ChangeSpec) : _root_.Go.OpenSpec := { _root_.Go.OpenSpec.ofChange s with cond := some uptoSmall }

/-- 'scruplelaw02.HashHexes', WHERE WHAT IT READS IS OF BULK AT MOST 1048576: true; the input reads as it did. -/
def hashHexesUptoRow : OpenClaim := { program := "ytikoahjnhdnhdaa", sum := "a0639477682e8a3cb8bbb6bb146a2311860b306dfa25fddea5a7adcc86ba042f", func := "scruple/scruplelaw02.HashHexes", spec := "hashHexes", apart := false, narrowed := true }
def HashHexesUptoSaid : Prop := hashHexesUptoRow.holds Try.pinned (OpenSpec.upto hashHexesSpec)

/-- 'scruplelaw02.HashUnhexes', WHERE WHAT IT READS IS OF BULK AT MOST 1048576: true; the input reads as it did. -/
def hashUnhexesUptoRow : OpenClaim := { program := "ytikoahjnhdnhdaa", sum := "a0639477682e8a3cb8bbb6bb146a2311860b306dfa25fddea5a7adcc86ba042f", func := "scruple/scruplelaw02.HashUnhexes", spec := "hashUnhexes", apart := false, narrowed := true }
def HashUnhexesUptoSaid : Prop := hashUnhexesUptoRow.holds Try.pinned (OpenSpec.upto hashUnhexesSpec)

/-- 'scruplelaw02.HashBack', WHERE WHAT IT READS IS OF BULK AT MOST 1048576: true; the input reads as it did. -/
def hashBackUptoRow : OpenClaim := { program := "ytikoahjnhdnhdaa", sum := "a0639477682e8a3cb8bbb6bb146a2311860b306dfa25fddea5a7adcc86ba042f", func := "scruple/scruplelaw02.HashBack", spec := "hashBack", apart := false, narrowed := true }
def HashBackUptoSaid : Prop := hashBackUptoRow.holds Try.pinned (OpenSpec.upto hashBackSpec)

end Rows
end Go.Proofs.Ytikoahjnhdnhdaa
