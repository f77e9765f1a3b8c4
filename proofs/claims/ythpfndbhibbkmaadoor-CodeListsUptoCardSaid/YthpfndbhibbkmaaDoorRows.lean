/-
  NARROWER THAN 'FOR EVERY INPUT', by the rows' own cells (each row's printed sentence says how): CodeNames: laid · GasCosts: laid · CodePuts: laid · CodeInfos: laid · CodeTakes: laid · CodeLists: laid · CodeBack: laid · CodeOne: laid.
  DERIVED. THE GIVEN ROWS OF THIS SEAT. 8 by the template 'for every input the law returns true; each argument reads behind the call as it read before'; 0 by the template 'total and deterministic' (their statements: YthpfndbhibbkmaaDoorTotals.lean).
  GIVEN WITH THE SEED: the statements are not yours to turn. If you find one false, say at which input.
  Laid BY PROGRAM, IN A SANDBOX (cutbox-rows.mjs): the forced cells as the released guide's own fill.sh prints them over the translation 274abd72791d7b12… (all of the seat's roots in one cut). By AI agents, Wed Nov 11 2026. No macro, syntax, notation, axiom, sorry.
-/
import Derived.Test.YthpfndbhibbkmaaDoorChecked
import GoSem.Claim
import GoSem.ClaimJoined
import GoSem.ClaimMapViews
import Derived.JoinedTies
import Derived.KernelRfl
namespace Go.Proofs.YthpfndbhibbkmaaDoor
/- THE CELL 'sum', in the pinned program and in every row, IS THE sha256 OF THE DUMP (.gsa) THAT YthpfndbhibbkmaaDoorProg.lean LOADS. Nothing in Lean hashes anything: it is a label: what it is worth is what the hold of that sum in a sandbox is worth. -/
noncomputable def Tryd.pinned : Pinned := { name := "ythpfndbhibbkmaadoor", sum := "274abd72791d7b121c1d2690c4d3da0f9fb65ec417eda4d0d9970dabd4c91b9e", checked := Tryd.checked }
namespace Rows
def none {H : Type} : Left H := { results := [], args := [] }

/- WHAT THE LISTED PACKAGE-LEVEL VARIABLES READ AS WHEN THE CALL BEGINS. Each datum BY PROGRAM (the guide's laid-datum.mjs) off the statement by which the dump's own 'gosem.cut.vars' lays the variable. In a bare row this is a premise. The card (YthpfndbhibbkmaaDoorCards.lean) ties it to the program's text. -/
def laid_scruple_code_names {H : Type} : DataW H := .agg [.lit (.string []), .lit (.string [99, 111, 110, 115, 116]), .lit (.string [103, 101, 116]), .lit (.string [115, 101, 116]), .lit (.string [112, 111, 112]), .lit (.string [106, 117, 109, 112]), .lit (.string [117, 110, 108, 101, 115, 115]), .lit (.string [116, 101, 115, 116]), .lit (.string [99, 97, 108, 108]), .lit (.string [114, 101, 116]), .lit (.string [97, 100, 100]), .lit (.string [115, 117, 98]), .lit (.string [109, 117, 108]), .lit (.string [100, 105, 118]), .lit (.string [114, 101, 109]), .lit (.string [110, 101, 103]), .lit (.string [110, 111, 116]), .lit (.string [101, 113]), .lit (.string [110, 101]), .lit (.string [108, 116]), .lit (.string [108, 101]), .lit (.string [103, 116]), .lit (.string [103, 101]), .lit (.string [97, 114, 114, 97, 121]), .lit (.string [114, 101, 99, 111, 114, 100]), .lit (.string [105, 110, 100, 101, 120]), .lit (.string [102, 105, 101, 108, 100]), .lit (.string [108, 101, 110]), .lit (.string [112, 117, 115, 104]), .lit (.string [99, 104, 97, 110, 103, 101]), .lit (.string [115, 108, 105, 99, 101]), .lit (.string [119, 105, 116, 104]), .lit (.string [119, 105, 116, 104, 111, 117, 116]), .lit (.string [107, 101, 121, 115]), .lit (.string [104, 97, 115]), .lit (.string [107, 105, 110, 100]), .lit (.string [100, 105, 103, 101, 115, 116]), .lit (.string [97, 98, 111, 114, 116]), .lit (.string [108, 111, 97, 100]), .lit (.string [115, 97, 118, 101]), .lit (.string [100, 114, 111, 112]), .lit (.string [97, 102, 116, 101, 114])]
def laid_scruple_code_numbers {H : Type} : DataW H := .agg [.agg [.lit (.int .i64 0), .lit (.int .i64 0), .lit (.int .i64 0), .lit (.int .i64 0), .lit (.int .i64 0)], .agg [.lit (.int .i64 1), .lit (.int .i64 0), .lit (.int .i64 1), .lit (.int .i64 1), .lit (.int .i64 0)], .agg [.lit (.int .i64 2), .lit (.int .i64 0), .lit (.int .i64 1), .lit (.int .i64 1), .lit (.int .i64 0)], .agg [.lit (.int .i64 2), .lit (.int .i64 1), .lit (.int .i64 0), .lit (.int .i64 1), .lit (.int .i64 0)], .agg [.lit (.int .i64 0), .lit (.int .i64 1), .lit (.int .i64 0), .lit (.int .i64 1), .lit (.int .i64 0)], .agg [.lit (.int .i64 3), .lit (.int .i64 0), .lit (.int .i64 0), .lit (.int .i64 1), .lit (.int .i64 0)], .agg [.lit (.int .i64 3), .lit (.int .i64 1), .lit (.int .i64 0), .lit (.int .i64 2), .lit (.int .i64 0)], .agg [.lit (.int .i64 0), .lit (.int .i64 1), .lit (.int .i64 1), .lit (.int .i64 1), .lit (.int .i64 0)], .agg [.lit (.int .i64 4), .lit (.int .i64 0), .lit (.int .i64 1), .lit (.int .i64 8), .lit (.int .i64 0)], .agg [.lit (.int .i64 0), .lit (.int .i64 1), .lit (.int .i64 0), .lit (.int .i64 1), .lit (.int .i64 0)], .agg [.lit (.int .i64 0), .lit (.int .i64 2), .lit (.int .i64 1), .lit (.int .i64 2), .lit (.int .i64 1)], .agg [.lit (.int .i64 0), .lit (.int .i64 2), .lit (.int .i64 1), .lit (.int .i64 2), .lit (.int .i64 0)], .agg [.lit (.int .i64 0), .lit (.int .i64 2), .lit (.int .i64 1), .lit (.int .i64 3), .lit (.int .i64 0)], .agg [.lit (.int .i64 0), .lit (.int .i64 2), .lit (.int .i64 1), .lit (.int .i64 3), .lit (.int .i64 0)], .agg [.lit (.int .i64 0), .lit (.int .i64 2), .lit (.int .i64 1), .lit (.int .i64 3), .lit (.int .i64 0)], .agg [.lit (.int .i64 0), .lit (.int .i64 1), .lit (.int .i64 1), .lit (.int .i64 1), .lit (.int .i64 0)], .agg [.lit (.int .i64 0), .lit (.int .i64 1), .lit (.int .i64 1), .lit (.int .i64 1), .lit (.int .i64 0)], .agg [.lit (.int .i64 0), .lit (.int .i64 2), .lit (.int .i64 1), .lit (.int .i64 2), .lit (.int .i64 1)], .agg [.lit (.int .i64 0), .lit (.int .i64 2), .lit (.int .i64 1), .lit (.int .i64 2), .lit (.int .i64 1)], .agg [.lit (.int .i64 0), .lit (.int .i64 2), .lit (.int .i64 1), .lit (.int .i64 2), .lit (.int .i64 1)], .agg [.lit (.int .i64 0), .lit (.int .i64 2), .lit (.int .i64 1), .lit (.int .i64 2), .lit (.int .i64 1)], .agg [.lit (.int .i64 0), .lit (.int .i64 2), .lit (.int .i64 1), .lit (.int .i64 2), .lit (.int .i64 1)], .agg [.lit (.int .i64 0), .lit (.int .i64 2), .lit (.int .i64 1), .lit (.int .i64 2), .lit (.int .i64 1)], .agg [.lit (.int .i64 5), .lit (.int .i64 0), .lit (.int .i64 1), .lit (.int .i64 2), .lit (.int .i64 1)], .agg [.lit (.int .i64 1), .lit (.int .i64 0), .lit (.int .i64 1), .lit (.int .i64 2), .lit (.int .i64 1)], .agg [.lit (.int .i64 0), .lit (.int .i64 2), .lit (.int .i64 1), .lit (.int .i64 2), .lit (.int .i64 0)], .agg [.lit (.int .i64 1), .lit (.int .i64 1), .lit (.int .i64 1), .lit (.int .i64 2), .lit (.int .i64 0)], .agg [.lit (.int .i64 0), .lit (.int .i64 1), .lit (.int .i64 1), .lit (.int .i64 1), .lit (.int .i64 0)], .agg [.lit (.int .i64 0), .lit (.int .i64 2), .lit (.int .i64 1), .lit (.int .i64 2), .lit (.int .i64 1)], .agg [.lit (.int .i64 0), .lit (.int .i64 3), .lit (.int .i64 1), .lit (.int .i64 2), .lit (.int .i64 1)], .agg [.lit (.int .i64 0), .lit (.int .i64 3), .lit (.int .i64 1), .lit (.int .i64 2), .lit (.int .i64 1)], .agg [.lit (.int .i64 0), .lit (.int .i64 3), .lit (.int .i64 1), .lit (.int .i64 2), .lit (.int .i64 1)], .agg [.lit (.int .i64 0), .lit (.int .i64 2), .lit (.int .i64 1), .lit (.int .i64 2), .lit (.int .i64 1)], .agg [.lit (.int .i64 0), .lit (.int .i64 1), .lit (.int .i64 1), .lit (.int .i64 2), .lit (.int .i64 1)], .agg [.lit (.int .i64 0), .lit (.int .i64 2), .lit (.int .i64 1), .lit (.int .i64 2), .lit (.int .i64 0)], .agg [.lit (.int .i64 0), .lit (.int .i64 1), .lit (.int .i64 1), .lit (.int .i64 1), .lit (.int .i64 0)], .agg [.lit (.int .i64 0), .lit (.int .i64 1), .lit (.int .i64 1), .lit (.int .i64 20), .lit (.int .i64 1)], .agg [.lit (.int .i64 0), .lit (.int .i64 1), .lit (.int .i64 1), .lit (.int .i64 1), .lit (.int .i64 0)], .agg [.lit (.int .i64 0), .lit (.int .i64 1), .lit (.int .i64 1), .lit (.int .i64 10), .lit (.int .i64 1)], .agg [.lit (.int .i64 0), .lit (.int .i64 2), .lit (.int .i64 1), .lit (.int .i64 20), .lit (.int .i64 2)], .agg [.lit (.int .i64 0), .lit (.int .i64 1), .lit (.int .i64 1), .lit (.int .i64 10), .lit (.int .i64 1)], .agg [.lit (.int .i64 0), .lit (.int .i64 1), .lit (.int .i64 1), .lit (.int .i64 10), .lit (.int .i64 1)]]

/-- 'scruplelaw08.CodeNames': WHATEVER THE INPUT: true; the input reads as it did. -/
def codeNamesSpec : ChangeSpec := { name := "codeNames", fn := fun _ => fun
  | [d] => { results := [.lit (.bool true)], args := [d] }
  | _ => none }
def codeNamesRow : OpenClaim := { program := "ythpfndbhibbkmaadoor", sum := "274abd72791d7b121c1d2690c4d3da0f9fb65ec417eda4d0d9970dabd4c91b9e", func := "scruple/scruplelaw08.CodeNames", spec := "codeNames", named := ["scruple/code.numbers", "scruple/code.names"], apart := false, laid := [("scruple/code.names", laid_scruple_code_names), ("scruple/code.numbers", laid_scruple_code_numbers)] }
def CodeNamesSaid : Prop := codeNamesRow.holds Tryd.pinned (OpenSpec.ofChange codeNamesSpec)

/-- ITS FALSE NEIGHBOUR: 'it returns false'. Refute it at one input. -/
def codeNamesWrong : ChangeSpec := { name := "codeNames", fn := fun _ => fun
  | [d] => { results := [.lit (.bool false)], args := [d] }
  | _ => none }
def CodeNamesWrongFalsely : Prop := codeNamesRow.holds Tryd.pinned (OpenSpec.ofChange codeNamesWrong)

/-- 'scruplelaw11.GasCosts': WHATEVER THE INPUT: true; the input reads as it did. -/
def gasCostsSpec : ChangeSpec := { name := "gasCosts", fn := fun _ => fun
  | [d1, d2] => { results := [.lit (.bool true)], args := [d1, d2] }
  | _ => none }
def gasCostsRow : OpenClaim := { program := "ythpfndbhibbkmaadoor", sum := "274abd72791d7b121c1d2690c4d3da0f9fb65ec417eda4d0d9970dabd4c91b9e", func := "scruple/scruplelaw11.GasCosts", spec := "gasCosts", named := ["scruple/code.numbers", "scruple/code.names"], apart := false, laid := [("scruple/code.names", laid_scruple_code_names), ("scruple/code.numbers", laid_scruple_code_numbers)] }
def GasCostsSaid : Prop := gasCostsRow.holds Tryd.pinned (OpenSpec.ofChange gasCostsSpec)

/-- ITS FALSE NEIGHBOUR: 'it returns false'. Refute it at one input. -/
def gasCostsWrong : ChangeSpec := { name := "gasCosts", fn := fun _ => fun
  | [d1, d2] => { results := [.lit (.bool false)], args := [d1, d2] }
  | _ => none }
def GasCostsWrongFalsely : Prop := gasCostsRow.holds Tryd.pinned (OpenSpec.ofChange gasCostsWrong)

/-- 'scruplelaw08.CodePuts': WHATEVER THE INPUT: true; the input reads as it did. -/
def codePutsSpec : ChangeSpec := { name := "codePuts", fn := fun _ => fun
  | [d1, d2] => { results := [.lit (.bool true)], args := [d1, d2] }
  | _ => none }
def codePutsRow : OpenClaim := { program := "ythpfndbhibbkmaadoor", sum := "274abd72791d7b121c1d2690c4d3da0f9fb65ec417eda4d0d9970dabd4c91b9e", func := "scruple/scruplelaw08.CodePuts", spec := "codePuts", named := ["scruple/code.numbers", "scruple/code.names"], apart := false, laid := [("scruple/code.names", laid_scruple_code_names), ("scruple/code.numbers", laid_scruple_code_numbers)] }
def CodePutsSaid : Prop := codePutsRow.holds Tryd.pinned (OpenSpec.ofChange codePutsSpec)

/-- ITS FALSE NEIGHBOUR: 'it returns false'. Refute it at one input. -/
def codePutsWrong : ChangeSpec := { name := "codePuts", fn := fun _ => fun
  | [d1, d2] => { results := [.lit (.bool false)], args := [d1, d2] }
  | _ => none }
def CodePutsWrongFalsely : Prop := codePutsRow.holds Tryd.pinned (OpenSpec.ofChange codePutsWrong)

/-- 'scruplelaw08.CodeInfos': WHATEVER THE INPUT: true; the input reads as it did. -/
def codeInfosSpec : ChangeSpec := { name := "codeInfos", fn := fun _ => fun
  | [d1, d2] => { results := [.lit (.bool true)], args := [d1, d2] }
  | _ => none }
def codeInfosRow : OpenClaim := { program := "ythpfndbhibbkmaadoor", sum := "274abd72791d7b121c1d2690c4d3da0f9fb65ec417eda4d0d9970dabd4c91b9e", func := "scruple/scruplelaw08.CodeInfos", spec := "codeInfos", named := ["scruple/code.numbers", "scruple/code.names"], apart := false, laid := [("scruple/code.names", laid_scruple_code_names), ("scruple/code.numbers", laid_scruple_code_numbers)] }
def CodeInfosSaid : Prop := codeInfosRow.holds Tryd.pinned (OpenSpec.ofChange codeInfosSpec)

/-- ITS FALSE NEIGHBOUR: 'it returns false'. Refute it at one input. -/
def codeInfosWrong : ChangeSpec := { name := "codeInfos", fn := fun _ => fun
  | [d1, d2] => { results := [.lit (.bool false)], args := [d1, d2] }
  | _ => none }
def CodeInfosWrongFalsely : Prop := codeInfosRow.holds Tryd.pinned (OpenSpec.ofChange codeInfosWrong)

/-- 'scruplelaw08.CodeTakes': WHATEVER THE INPUT: true; the input reads as it did. -/
def codeTakesSpec : ChangeSpec := { name := "codeTakes", fn := fun _ => fun
  | [d1, d2] => { results := [.lit (.bool true)], args := [d1, d2] }
  | _ => none }
def codeTakesRow : OpenClaim := { program := "ythpfndbhibbkmaadoor", sum := "274abd72791d7b121c1d2690c4d3da0f9fb65ec417eda4d0d9970dabd4c91b9e", func := "scruple/scruplelaw08.CodeTakes", spec := "codeTakes", named := ["scruple/code.numbers", "scruple/code.names"], apart := false, laid := [("scruple/code.names", laid_scruple_code_names), ("scruple/code.numbers", laid_scruple_code_numbers)] }
def CodeTakesSaid : Prop := codeTakesRow.holds Tryd.pinned (OpenSpec.ofChange codeTakesSpec)

/-- ITS FALSE NEIGHBOUR: 'it returns false'. Refute it at one input. -/
def codeTakesWrong : ChangeSpec := { name := "codeTakes", fn := fun _ => fun
  | [d1, d2] => { results := [.lit (.bool false)], args := [d1, d2] }
  | _ => none }
def CodeTakesWrongFalsely : Prop := codeTakesRow.holds Tryd.pinned (OpenSpec.ofChange codeTakesWrong)

/-- 'scruplelaw08.CodeLists': WHATEVER THE INPUT: true; the input reads as it did. -/
def codeListsSpec : ChangeSpec := { name := "codeLists", fn := fun _ => fun
  | [d1, d2] => { results := [.lit (.bool true)], args := [d1, d2] }
  | _ => none }
def codeListsRow : OpenClaim := { program := "ythpfndbhibbkmaadoor", sum := "274abd72791d7b121c1d2690c4d3da0f9fb65ec417eda4d0d9970dabd4c91b9e", func := "scruple/scruplelaw08.CodeLists", spec := "codeLists", named := ["scruple/code.numbers", "scruple/code.names"], apart := false, laid := [("scruple/code.names", laid_scruple_code_names), ("scruple/code.numbers", laid_scruple_code_numbers)] }
def CodeListsSaid : Prop := codeListsRow.holds Tryd.pinned (OpenSpec.ofChange codeListsSpec)

/-- ITS FALSE NEIGHBOUR: 'it returns false'. Refute it at one input. -/
def codeListsWrong : ChangeSpec := { name := "codeLists", fn := fun _ => fun
  | [d1, d2] => { results := [.lit (.bool false)], args := [d1, d2] }
  | _ => none }
def CodeListsWrongFalsely : Prop := codeListsRow.holds Tryd.pinned (OpenSpec.ofChange codeListsWrong)

/-- 'scruplelaw08.CodeBack': WHATEVER THE INPUT: true; the input reads as it did. -/
def codeBackSpec : ChangeSpec := { name := "codeBack", fn := fun _ => fun
  | [d] => { results := [.lit (.bool true)], args := [d] }
  | _ => none }
def codeBackRow : OpenClaim := { program := "ythpfndbhibbkmaadoor", sum := "274abd72791d7b121c1d2690c4d3da0f9fb65ec417eda4d0d9970dabd4c91b9e", func := "scruple/scruplelaw08.CodeBack", spec := "codeBack", named := ["scruple/code.numbers", "scruple/code.names"], apart := false, laid := [("scruple/code.names", laid_scruple_code_names), ("scruple/code.numbers", laid_scruple_code_numbers)] }
def CodeBackSaid : Prop := codeBackRow.holds Tryd.pinned (OpenSpec.ofChange codeBackSpec)

/-- ITS FALSE NEIGHBOUR: 'it returns false'. Refute it at one input. -/
def codeBackWrong : ChangeSpec := { name := "codeBack", fn := fun _ => fun
  | [d] => { results := [.lit (.bool false)], args := [d] }
  | _ => none }
def CodeBackWrongFalsely : Prop := codeBackRow.holds Tryd.pinned (OpenSpec.ofChange codeBackWrong)

/-- 'scruplelaw08.CodeOne': WHATEVER THE INPUT: true; the input reads as it did. -/
def codeOneSpec : ChangeSpec := { name := "codeOne", fn := fun _ => fun
  | [d] => { results := [.lit (.bool true)], args := [d] }
  | _ => none }
def codeOneRow : OpenClaim := { program := "ythpfndbhibbkmaadoor", sum := "274abd72791d7b121c1d2690c4d3da0f9fb65ec417eda4d0d9970dabd4c91b9e", func := "scruple/scruplelaw08.CodeOne", spec := "codeOne", named := ["scruple/code.numbers", "scruple/code.names"], apart := false, laid := [("scruple/code.names", laid_scruple_code_names), ("scruple/code.numbers", laid_scruple_code_numbers)] }
def CodeOneSaid : Prop := codeOneRow.holds Tryd.pinned (OpenSpec.ofChange codeOneSpec)

/-- ITS FALSE NEIGHBOUR: 'it returns false'. Refute it at one input. -/
def codeOneWrong : ChangeSpec := { name := "codeOne", fn := fun _ => fun
  | [d] => { results := [.lit (.bool false)], args := [d] }
  | _ => none }
def CodeOneWrongFalsely : Prop := codeOneRow.holds Tryd.pinned (OpenSpec.ofChange codeOneWrong)

/- THE SECOND FORM. 'bulk': how many values and letters a reading holds, each counted each time it is reached (what is shared counts as often as it is met; a slice's spare places count too). A statement '..UptoSaid' is the law's where the arguments, and the package variables that the reading takes, are together of bulk at most 1048576: NARROWER than '..Said'. Prove '..Said' where nothing that the law and all that it calls make is longer than what came in: it says more and counts as full. Else prove '..UptoSaid'. A law counts once. -/
mutual
def uptoBulk {H : Type} : DataW H → Nat
  | .lit (.string bytes) => bytes.length + 1
  | .lit _ => 1
  | .nil => 1
  | .ptr d => uptoBulk d + 1
  | .slice elems spare => uptoBulkAll elems + uptoBulkAll spare + 1
  | .agg parts => uptoBulkAll parts + 1
  | .iface _ d => uptoBulk d + 1
  | .map entries => uptoBulkEntries entries + 1
  | .held _ => 1
def uptoBulkAll {H : Type} : List (DataW H) → Nat
  | [] => 0
  | d :: r => uptoBulk d + uptoBulkAll r
def uptoBulkEntries {H : Type} : List (Lit × DataW H) → Nat
  | [] => 0
  | x :: r => uptoBulkEntry x + uptoBulkEntries r
def uptoBulkEntry {H : Type} : Lit × DataW H → Nat
  | (.string bytes, d) => bytes.length + uptoBulk d + 1
  | (_, d) => uptoBulk d + 1
 end
def uptoSmall : (H : Type) → List (DataW H) → Bool := fun _ ds => decide (uptoBulkAll ds ≤ 1048576)
def OpenSpec.upto (s : _root_.Go.ChangeSpec) : _root_.Go.OpenSpec := { _root_.Go.OpenSpec.ofChange s with cond := some uptoSmall }

/-- 'scruplelaw08.CodeNames', WHERE WHAT IT READS IS OF BULK AT MOST 1048576: true; the input reads as it did. -/
def codeNamesUptoRow : OpenClaim := { program := "ythpfndbhibbkmaadoor", sum := "274abd72791d7b121c1d2690c4d3da0f9fb65ec417eda4d0d9970dabd4c91b9e", func := "scruple/scruplelaw08.CodeNames", spec := "codeNames", named := ["scruple/code.numbers", "scruple/code.names"], apart := false, laid := [("scruple/code.names", laid_scruple_code_names), ("scruple/code.numbers", laid_scruple_code_numbers)], narrowed := true }
def CodeNamesUptoSaid : Prop := codeNamesUptoRow.holds Tryd.pinned (OpenSpec.upto codeNamesSpec)

/-- 'scruplelaw11.GasCosts', WHERE WHAT IT READS IS OF BULK AT MOST 1048576: true; the input reads as it did. -/
def gasCostsUptoRow : OpenClaim := { program := "ythpfndbhibbkmaadoor", sum := "274abd72791d7b121c1d2690c4d3da0f9fb65ec417eda4d0d9970dabd4c91b9e", func := "scruple/scruplelaw11.GasCosts", spec := "gasCosts", named := ["scruple/code.numbers", "scruple/code.names"], apart := false, laid := [("scruple/code.names", laid_scruple_code_names), ("scruple/code.numbers", laid_scruple_code_numbers)], narrowed := true }
def GasCostsUptoSaid : Prop := gasCostsUptoRow.holds Tryd.pinned (OpenSpec.upto gasCostsSpec)

/-- 'scruplelaw08.CodePuts', WHERE WHAT IT READS IS OF BULK AT MOST 1048576: true; the input reads as it did. -/
def codePutsUptoRow : OpenClaim := { program := "ythpfndbhibbkmaadoor", sum := "274abd72791d7b121c1d2690c4d3da0f9fb65ec417eda4d0d9970dabd4c91b9e", func := "scruple/scruplelaw08.CodePuts", spec := "codePuts", named := ["scruple/code.numbers", "scruple/code.names"], apart := false, laid := [("scruple/code.names", laid_scruple_code_names), ("scruple/code.numbers", laid_scruple_code_numbers)], narrowed := true }
def CodePutsUptoSaid : Prop := codePutsUptoRow.holds Tryd.pinned (OpenSpec.upto codePutsSpec)

/-- 'scruplelaw08.CodeInfos', WHERE WHAT IT READS IS OF BULK AT MOST 1048576: true; the input reads as it did. -/
def codeInfosUptoRow : OpenClaim := { program := "ythpfndbhibbkmaadoor", sum := "274abd72791d7b121c1d2690c4d3da0f9fb65ec417eda4d0d9970dabd4c91b9e", func := "scruple/scruplelaw08.CodeInfos", spec := "codeInfos", named := ["scruple/code.numbers", "scruple/code.names"], apart := false, laid := [("scruple/code.names", laid_scruple_code_names), ("scruple/code.numbers", laid_scruple_code_numbers)], narrowed := true }
def CodeInfosUptoSaid : Prop := codeInfosUptoRow.holds Tryd.pinned (OpenSpec.upto codeInfosSpec)

/-- 'scruplelaw08.CodeTakes', WHERE WHAT IT READS IS OF BULK AT MOST 1048576: true; the input reads as it did. -/
def codeTakesUptoRow : OpenClaim := { program := "ythpfndbhibbkmaadoor", sum := "274abd72791d7b121c1d2690c4d3da0f9fb65ec417eda4d0d9970dabd4c91b9e", func := "scruple/scruplelaw08.CodeTakes", spec := "codeTakes", named := ["scruple/code.numbers", "scruple/code.names"], apart := false, laid := [("scruple/code.names", laid_scruple_code_names), ("scruple/code.numbers", laid_scruple_code_numbers)], narrowed := true }
def CodeTakesUptoSaid : Prop := codeTakesUptoRow.holds Tryd.pinned (OpenSpec.upto codeTakesSpec)

/-- 'scruplelaw08.CodeLists', WHERE WHAT IT READS IS OF BULK AT MOST 1048576: true; the input reads as it did. -/
def codeListsUptoRow : OpenClaim := { program := "ythpfndbhibbkmaadoor", sum := "274abd72791d7b121c1d2690c4d3da0f9fb65ec417eda4d0d9970dabd4c91b9e", func := "scruple/scruplelaw08.CodeLists", spec := "codeLists", named := ["scruple/code.numbers", "scruple/code.names"], apart := false, laid := [("scruple/code.names", laid_scruple_code_names), ("scruple/code.numbers", laid_scruple_code_numbers)], narrowed := true }
def CodeListsUptoSaid : Prop := codeListsUptoRow.holds Tryd.pinned (OpenSpec.upto codeListsSpec)

/-- 'scruplelaw08.CodeBack', WHERE WHAT IT READS IS OF BULK AT MOST 1048576: true; the input reads as it did. -/
def codeBackUptoRow : OpenClaim := { program := "ythpfndbhibbkmaadoor", sum := "274abd72791d7b121c1d2690c4d3da0f9fb65ec417eda4d0d9970dabd4c91b9e", func := "scruple/scruplelaw08.CodeBack", spec := "codeBack", named := ["scruple/code.numbers", "scruple/code.names"], apart := false, laid := [("scruple/code.names", laid_scruple_code_names), ("scruple/code.numbers", laid_scruple_code_numbers)], narrowed := true }
def CodeBackUptoSaid : Prop := codeBackUptoRow.holds Tryd.pinned (OpenSpec.upto codeBackSpec)

/-- 'scruplelaw08.CodeOne', WHERE WHAT IT READS IS OF BULK AT MOST 1048576: true; the input reads as it did. -/
def codeOneUptoRow : OpenClaim := { program := "ythpfndbhibbkmaadoor", sum := "274abd72791d7b121c1d2690c4d3da0f9fb65ec417eda4d0d9970dabd4c91b9e", func := "scruple/scruplelaw08.CodeOne", spec := "codeOne", named := ["scruple/code.numbers", "scruple/code.names"], apart := false, laid := [("scruple/code.names", laid_scruple_code_names), ("scruple/code.numbers", laid_scruple_code_numbers)], narrowed := true }
def CodeOneUptoSaid : Prop := codeOneUptoRow.holds Tryd.pinned (OpenSpec.upto codeOneSpec)

end Rows
end Go.Proofs.YthpfndbhibbkmaaDoor
