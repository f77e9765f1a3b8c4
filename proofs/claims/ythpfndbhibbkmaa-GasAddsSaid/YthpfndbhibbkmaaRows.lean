/-
  No cell of these rows narrows 'for every input' (looked for: loops, veiled, ifaces, maps, wideKeys, modest, calm, conditions, laid).
  DERIVED. THE GIVEN ROWS OF THIS SEAT. 3 by the template 'for every input the law returns true; each argument reads behind the call as it read before'; 0 by the template 'total and deterministic' (their statements: YthpfndbhibbkmaaTotals.lean).
  GIVEN WITH THE SEED: the statements are not yours to turn. If you find one false, say at which input.
  Laid BY PROGRAM, IN A SANDBOX (cutbox-rows.mjs): the forced cells as the released guide's own fill.sh prints them over the translation 1a70c3503c07af57… (all of the seat's roots in one cut). By AI agents, Wed Nov 11 2026. No macro, syntax, notation, axiom, sorry.
-/
import Derived.Test.YthpfndbhibbkmaaChecked
import GoSem.Claim
import GoSem.ClaimJoined
import GoSem.ClaimMapViews
import Derived.JoinedTies
import Derived.KernelRfl
namespace Go.Proofs.Ythpfndbhibbkmaa
/- THE CELL 'sum', in the pinned program and in every row, IS THE sha256 OF THE DUMP (.gsa) THAT YthpfndbhibbkmaaProg.lean LOADS. Nothing in Lean hashes anything: it is a label: what it is worth is what the hold of that sum in a sandbox is worth. -/
noncomputable def Try.pinned : Pinned := { name := "ythpfndbhibbkmaa", sum := "1a70c3503c07af5724cd775cfd135fae6f01ab5822056b5325494c7981be7a49", checked := Try.checked }
namespace Rows
def none {H : Type} : Left H := { results := [], args := [] }

/-- 'scruplelaw11.GasAdds': WHATEVER THE INPUT: true; the input reads as it did. -/
def gasAddsSpec : ChangeSpec := { name := "gasAdds", fn := fun _ => fun
  | [d1, d2] => { results := [.lit (.bool true)], args := [d1, d2] }
  | _ => none }
def gasAddsRow : OpenClaim := { program := "ythpfndbhibbkmaa", sum := "1a70c3503c07af5724cd775cfd135fae6f01ab5822056b5325494c7981be7a49", func := "scruple/scruplelaw11.GasAdds", spec := "gasAdds", apart := false }
def GasAddsSaid : Prop := gasAddsRow.holds Try.pinned (OpenSpec.ofChange gasAddsSpec)

/-- ITS FALSE NEIGHBOUR: 'it returns false'. Refute it at one input. -/
def gasAddsWrong : ChangeSpec := { name := "gasAdds", fn := fun _ => fun
  | [d1, d2] => { results := [.lit (.bool false)], args := [d1, d2] }
  | _ => none }
def GasAddsWrongFalsely : Prop := gasAddsRow.holds Try.pinned (OpenSpec.ofChange gasAddsWrong)

/-- 'scruplelaw11.GasParts': WHATEVER THE INPUT: true; the input reads as it did. -/
def gasPartsSpec : ChangeSpec := { name := "gasParts", fn := fun _ => fun
  | [d1, d2, d3] => { results := [.lit (.bool true)], args := [d1, d2, d3] }
  | _ => none }
def gasPartsRow : OpenClaim := { program := "ythpfndbhibbkmaa", sum := "1a70c3503c07af5724cd775cfd135fae6f01ab5822056b5325494c7981be7a49", func := "scruple/scruplelaw11.GasParts", spec := "gasParts", apart := false }
def GasPartsSaid : Prop := gasPartsRow.holds Try.pinned (OpenSpec.ofChange gasPartsSpec)

/-- ITS FALSE NEIGHBOUR: 'it returns false'. Refute it at one input. -/
def gasPartsWrong : ChangeSpec := { name := "gasParts", fn := fun _ => fun
  | [d1, d2, d3] => { results := [.lit (.bool false)], args := [d1, d2, d3] }
  | _ => none }
def GasPartsWrongFalsely : Prop := gasPartsRow.holds Try.pinned (OpenSpec.ofChange gasPartsWrong)

/-- 'scruplelaw11.GasNone': WHATEVER THE INPUT: true; the input reads as it did. -/
def gasNoneSpec : ChangeSpec := { name := "gasNone", fn := fun _ => fun
  | [d] => { results := [.lit (.bool true)], args := [d] }
  | _ => none }
def gasNoneRow : OpenClaim := { program := "ythpfndbhibbkmaa", sum := "1a70c3503c07af5724cd775cfd135fae6f01ab5822056b5325494c7981be7a49", func := "scruple/scruplelaw11.GasNone", spec := "gasNone", apart := false }
def GasNoneSaid : Prop := gasNoneRow.holds Try.pinned (OpenSpec.ofChange gasNoneSpec)

/-- ITS FALSE NEIGHBOUR: 'it returns false'. Refute it at one input. -/
def gasNoneWrong : ChangeSpec := { name := "gasNone", fn := fun _ => fun
  | [d] => { results := [.lit (.bool false)], args := [d] }
  | _ => none }
def GasNoneWrongFalsely : Prop := gasNoneRow.holds Try.pinned (OpenSpec.ofChange gasNoneWrong)

/- THE SECOND FORM. 'bulk': how many values and letters a reading holds, each counted each time it is reached (what is shared counts as often as it is met; a slice's spare places count too). A statement '..UptoSaid' is the law's where the arguments, and the package variables that the reading takes, are together of bulk at most 1048576: NARROWER than '..Said'. Prove '..Said' where nothing that the law and all that it calls make is longer than what came in: it says more and counts as full. Else prove '..UptoSaid'. A law counts once. -/
mutual
def uptoBulk {H : Type} : DataW H → Nat
  | .lit (.string bytes) => bytes.length + 1
  | .lit _ => 1
  | .nil => 1
  | .ptr d => uptoBulk d + 1
  | .slice elems spare => uptoBulkAll elems + uptoBulkAll spare + 1
  | .agg parts => uptoBulkAll parts + 1
  | .iface _ d => uptoBulk d + 1
  | .map entries => uptoBulkEntries entries + 1
  | .held _ => 1
def uptoBulkAll {H : Type} : List (DataW H) → Nat
  | [] => 0
  | d :: r => uptoBulk d + uptoBulkAll r
def uptoBulkEntries {H : Type} : List (Lit × DataW H) → Nat
  | [] => 0
  | x :: r => uptoBulkEntry x + uptoBulkEntries r
def uptoBulkEntry {H : Type} : Lit × DataW H → Nat
  | (.string bytes, d) => bytes.length + uptoBulk d + 1
  | (_, d) => uptoBulk d + 1
 end
def uptoSmall : (H : Type) → List (DataW H) → Bool := fun _ ds => decide (uptoBulkAll ds ≤ 1048576)
def OpenSpec.upto (s : _root_.Go.ChangeSpec) : _root_.Go.OpenSpec := { _root_.Go.OpenSpec.ofChange s with cond := some uptoSmall }

/-- 'scruplelaw11.GasAdds', WHERE WHAT IT READS IS OF BULK AT MOST 1048576: true; the input reads as it did. -/
def gasAddsUptoRow : OpenClaim := { program := "ythpfndbhibbkmaa", sum := "1a70c3503c07af5724cd775cfd135fae6f01ab5822056b5325494c7981be7a49", func := "scruple/scruplelaw11.GasAdds", spec := "gasAdds", apart := false, narrowed := true }
def GasAddsUptoSaid : Prop := gasAddsUptoRow.holds Try.pinned (OpenSpec.upto gasAddsSpec)

/-- 'scruplelaw11.GasParts', WHERE WHAT IT READS IS OF BULK AT MOST 1048576: true; the input reads as it did. -/
def gasPartsUptoRow : OpenClaim := { program := "ythpfndbhibbkmaa", sum := "1a70c3503c07af5724cd775cfd135fae6f01ab5822056b5325494c7981be7a49", func := "scruple/scruplelaw11.GasParts", spec := "gasParts", apart := false, narrowed := true }
def GasPartsUptoSaid : Prop := gasPartsUptoRow.holds Try.pinned (OpenSpec.upto gasPartsSpec)

/-- 'scruplelaw11.GasNone', WHERE WHAT IT READS IS OF BULK AT MOST 1048576: true; the input reads as it did. -/
def gasNoneUptoRow : OpenClaim := { program := "ythpfndbhibbkmaa", sum := "1a70c3503c07af5724cd775cfd135fae6f01ab5822056b5325494c7981be7a49", func := "scruple/scruplelaw11.GasNone", spec := "gasNone", apart := false, narrowed := true }
def GasNoneUptoSaid : Prop := gasNoneUptoRow.holds Try.pinned (OpenSpec.upto gasNoneSpec)

end Rows
end Go.Proofs.Ythpfndbhibbkmaa
