/- FROM THE ROWS' LIST ('laid') TO THE TABLE: a world in which the two listed variables read as they are laid holds the operations' table ('Tabs'). And the world for the rows' witnesses. -/
import Derived.Test.YthpfndbhibbkmaaDoorTab
import Derived.Test.YthpfndbhibbkmaaDoorPlain
import Derived.Deep.DeepHandedRow
import Derived.ProofKit
namespace Go.Proofs.YthpfndbhibbkmaaDoor
open Go.ChangeShapes Go.WideShapes Go.ChangeAt Go.RowKit

theorem own : ownKnob Tryd.prog.godebug = none := by kernel_rfl
theorem laidOut : laidOutB Tryd.prog = true := by kernel_rfl
theorem gNames : Tryd.prog.globalNamed "scruple/code.names" = some 1 := by kernel_rfl
theorem gNumbers : Tryd.prog.globalNamed "scruple/code.numbers" = some 0 := by kernel_rfl
theorem gNamesType : (Tryd.prog.globals[1]?).map (·.type) = some 59 := by kernel_rfl
theorem gNumbersType : (Tryd.prog.globals[0]?).map (·.type) = some 58 := by kernel_rfl
theorem plainNames : plainT Tryd.prog 4 59 = true := by kernel_rfl
theorem plainNumbers : plainT Tryd.prog 4 58 = true := by kernel_rfl
theorem backNames : back (H := Unit) Rows.laid_scruple_code_names = nmCells.toList := by kernel_rfl
theorem backNumbers : back (H := Unit) Rows.laid_scruple_code_numbers = numCells.toList := by kernel_rfl

theorem block_of_var {P : Program} {w : World} {n : String} {g : Nat} {cs : Array Value} (hg : P.globalNamed n = some g) (h : w.var? P n = some cs) : ∃ t fr, w.heap[g]? = some (.cells cs t fr) := by
  unfold World.var? at h
  rw [hg] at h
  simp only [Option.bind_some] at h
  split at h
  · rename_i c t fr hh
    injection h with h
    subst h
    exact ⟨t, fr, hh⟩
  · cases h

theorem tabs_of_laid {W : World} (h : laidMetH Tryd.prog [("scruple/code.names", Rows.laid_scruple_code_names), ("scruple/code.numbers", Rows.laid_scruple_code_numbers)] W) : Tabs W := by
  have h' : laidMet Tryd.prog [("scruple/code.names", Rows.laid_scruple_code_names), ("scruple/code.numbers", Rows.laid_scruple_code_numbers)] W := h
  obtain ⟨ps, ⟨g, t, cs, fuel, p, q, hg, ht, hvar, hd, ⟨g2, t2, cs2, fuel2, p2, q2, hg2, ht2, hvar2, hd2, _, _⟩, _⟩, _⟩ := h'
  obtain rfl := Option.some.inj (gNames.symm.trans hg)
  obtain rfl := Option.some.inj (gNamesType.symm.trans ht)
  obtain rfl := Option.some.inj (gNumbers.symm.trans hg2)
  obtain rfl := Option.some.inj (gNumbersType.symm.trans ht2)
  have e1 := back_of_trod 4 fuel 59 _ _ plainNames hd
  have e2 := back_of_trod 4 fuel2 58 _ _ plainNumbers hd2
  have f1 : cs = nmCells := by
    apply Array.toList_inj.1
    rw [e1]
    exact backNames
  have f2 : cs2 = numCells := by
    apply Array.toList_inj.1
    rw [e2]
    exact backNumbers
  subst f1
  subst f2
  exact ⟨block_of_var gNumbers hvar2, block_of_var gNames hvar⟩

/-- A block's cells, laid anew. -/
def refill (cs : Array Value) : Obj → Obj
  | .cells _ t frozen => .cells cs t frozen
  | o => o
/-- A WORLD FOR THE WITNESS: the settled one, the tables as their initialisers lay them. -/
noncomputable def laidWorld (os : Os) : World :=
  { World.holding Tryd.prog os ⟨#[], #[], []⟩ with heap := (((World.holding Tryd.prog os ⟨#[], #[], []⟩).heap.modify 0 (refill numCells)).modify 1 (refill nmCells)) }
end Go.Proofs.YthpfndbhibbkmaaDoor
