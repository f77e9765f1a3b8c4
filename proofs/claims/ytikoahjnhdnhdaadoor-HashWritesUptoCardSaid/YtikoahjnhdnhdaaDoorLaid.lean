/- FROM THE ROWS' LIST ('laid') TO THE TABLE: a world in which the listed variable reads as it is laid holds the table of the rounds ('Tabs'). And the world for the rows' witnesses. -/
import Derived.Test.YtikoahjnhdnhdaaDoorState
import Derived.Test.YtikoahjnhdnhdaaDoorPlain
import Derived.Deep.DeepHandedRow
import Derived.ProofKit
namespace Go.Proofs.YtikoahjnhdnhdaaDoor
open Go.ChangeShapes Go.WideShapes Go.ChangeAt Go.RowKit

theorem own : ownKnob Tryd.prog.godebug = none := by kernel_rfl
theorem laidOut : laidOutB Tryd.prog = true := by kernel_rfl
theorem gRounds : Tryd.prog.globalNamed "scruple/hash.rounds" = some 0 := by kernel_rfl
theorem gRoundsType : (Tryd.prog.globals[0]?).map (·.type) = some 50 := by kernel_rfl
theorem plainRounds : plainT Tryd.prog 4 50 = true := by kernel_rfl
theorem backRounds : back (H := Unit) Rows.laid_scruple_hash_rounds = rlCells.toList := by kernel_rfl

theorem block_of_var {P : Program} {w : World} {n : String} {g : Nat} {cs : Array Value} (hg : P.globalNamed n = some g) (h : w.var? P n = some cs) : ∃ t fr, w.heap[g]? = some (.cells cs t fr) := by
  unfold World.var? at h
  rw [hg] at h
  simp only [Option.bind_some] at h
  split at h
  · rename_i c t fr hh
    injection h with h
    subst h
    exact ⟨t, fr, hh⟩
  · cases h

theorem tabs_of_laid {W : World} (h : laidMetH Tryd.prog [("scruple/hash.rounds", Rows.laid_scruple_hash_rounds)] W) : Tabs W := by
  have h' : laidMet Tryd.prog [("scruple/hash.rounds", Rows.laid_scruple_hash_rounds)] W := h
  obtain ⟨ps, ⟨g, t, cs, fuel, p, q, hg, ht, hvar, hd, _, _⟩, _⟩ := h'
  obtain rfl := Option.some.inj (gRounds.symm.trans hg)
  obtain rfl := Option.some.inj (gRoundsType.symm.trans ht)
  have e1 := back_of_trod 4 fuel 50 _ _ plainRounds hd
  have f1 : cs = rlCells := by
    apply Array.toList_inj.1
    rw [e1]
    exact backRounds
  subst f1
  exact block_of_var gRounds hvar

/-- A block's cells, laid anew. -/
def refill (cs : Array Value) : Obj → Obj
  | .cells _ t frozen => .cells cs t frozen
  | o => o
/-- A WORLD FOR THE WITNESS: the settled one, the table as its initialiser lays it. -/
noncomputable def laidWorld (os : Os) : World :=
  { World.holding Tryd.prog os ⟨#[], #[], []⟩ with heap := ((World.holding Tryd.prog os ⟨#[], #[], []⟩).heap.modify 0 (refill rlCells)) }
end Go.Proofs.YtikoahjnhdnhdaaDoor
