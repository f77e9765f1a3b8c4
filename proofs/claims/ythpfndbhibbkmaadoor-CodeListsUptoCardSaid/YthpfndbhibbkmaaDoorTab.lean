/- THE OPERATIONS' TABLE (package code's variables names and numbers) as plain data, and what a world that holds it gives. No condition beyond 'Tabs w': the two variables' blocks hold the table. -/
import Derived.Test.YthpfndbhibbkmaaDoorRows
import Derived.WalkKit
import Derived.Below
namespace Go.Proofs.YthpfndbhibbkmaaDoor
open Go.RowKit
def nmL : List (List UInt8) := [[], [99, 111, 110, 115, 116], [103, 101, 116], [115, 101, 116], [112, 111, 112], [106, 117, 109, 112], [117, 110, 108, 101, 115, 115], [116, 101, 115, 116], [99, 97, 108, 108], [114, 101, 116], [97, 100, 100], [115, 117, 98], [109, 117, 108], [100, 105, 118], [114, 101, 109], [110, 101, 103], [110, 111, 116], [101, 113], [110, 101], [108, 116], [108, 101], [103, 116], [103, 101], [97, 114, 114, 97, 121], [114, 101, 99, 111, 114, 100], [105, 110, 100, 101, 120], [102, 105, 101, 108, 100], [108, 101, 110], [112, 117, 115, 104], [99, 104, 97, 110, 103, 101], [115, 108, 105, 99, 101], [119, 105, 116, 104], [119, 105, 116, 104, 111, 117, 116], [107, 101, 121, 115], [104, 97, 115], [107, 105, 110, 100], [100, 105, 103, 101, 115, 116], [97, 98, 111, 114, 116], [108, 111, 97, 100], [115, 97, 118, 101], [100, 114, 111, 112], [97, 102, 116, 101, 114]]
def numL : List (List Int) := [[0, 0, 0, 0, 0], [1, 0, 1, 1, 0], [2, 0, 1, 1, 0], [2, 1, 0, 1, 0], [0, 1, 0, 1, 0], [3, 0, 0, 1, 0], [3, 1, 0, 2, 0], [0, 1, 1, 1, 0], [4, 0, 1, 8, 0], [0, 1, 0, 1, 0], [0, 2, 1, 2, 1], [0, 2, 1, 2, 0], [0, 2, 1, 3, 0], [0, 2, 1, 3, 0], [0, 2, 1, 3, 0], [0, 1, 1, 1, 0], [0, 1, 1, 1, 0], [0, 2, 1, 2, 1], [0, 2, 1, 2, 1], [0, 2, 1, 2, 1], [0, 2, 1, 2, 1], [0, 2, 1, 2, 1], [0, 2, 1, 2, 1], [5, 0, 1, 2, 1], [1, 0, 1, 2, 1], [0, 2, 1, 2, 0], [1, 1, 1, 2, 0], [0, 1, 1, 1, 0], [0, 2, 1, 2, 1], [0, 3, 1, 2, 1], [0, 3, 1, 2, 1], [0, 3, 1, 2, 1], [0, 2, 1, 2, 1], [0, 1, 1, 2, 1], [0, 2, 1, 2, 0], [0, 1, 1, 1, 0], [0, 1, 1, 20, 1], [0, 1, 1, 1, 0], [0, 1, 1, 10, 1], [0, 2, 1, 20, 2], [0, 1, 1, 10, 1], [0, 1, 1, 10, 1]]
def nmT : Nat → ByteArray := fun k => ⟨(nmL.getD k []).toArray⟩
def numT : Nat → Nat → Int := fun k j => (numL.getD k []).getD j 0
def nmCells : Array Value := (nmL.map fun l => Value.string ⟨l.toArray⟩).toArray
def numCells : Array Value := (numL.flatten.map (Value.int .i64)).toArray
def sortT (k : Nat) : Int := numT k 0
/-- What api.Info says of operation k. -/
def infoV (k : Nat) : Value := .agg #[.string (nmT k), .int .i64 (numT k 0), .int .i64 (numT k 1), .int .i64 (numT k 2), .int .i64 (numT k 3), .int .i64 (numT k 4)]
/-- The world holds the table. -/
structure Tabs (w : World) : Prop where
  num : ∃ t fr, w.heap[0]? = some (.cells numCells t fr)
  nm : ∃ t fr, w.heap[1]? = some (.cells nmCells t fr)
theorem Tabs.below {w w' : World} (h : Tabs w) (hb : Below w.heap.size w w') : Tabs w' := by
  obtain ⟨⟨t, f, h0⟩, ⟨t', f', h1⟩⟩ := h
  have l0 : 0 < w.heap.size := (Array.getElem?_eq_some_iff.1 h0).1
  have l1 : 1 < w.heap.size := (Array.getElem?_eq_some_iff.1 h1).1
  exact ⟨⟨t, f, (hb.block 0 l0).trans h0⟩, ⟨t', f', (hb.block 1 l1).trans h1⟩⟩
theorem Tabs.size {w : World} (h : Tabs w) : 1 < w.heap.size := by
  obtain ⟨_, ⟨t', f', h1⟩⟩ := h
  exact (Array.getElem?_eq_some_iff.1 h1).1
theorem flat_at : ∀ k, k < 42 → ∀ j, j < 5 → numL.flatten[k * 5 + j]? = some (numT k j) := by decide +kernel
theorem numCells_at (k : Nat) (hk : k < 42) (j : Nat) (hj : j < 5) : numCells[k * 5 + j]? = some (.int .i64 (numT k j)) := by
  unfold numCells
  rw [List.getElem?_toArray, List.getElem?_map, flat_at k hk j hj]
  rfl
theorem nmL_at : ∀ k, k < 42 → nmL[k]? = some (nmL.getD k []) := by decide +kernel
theorem nmCells_at (k : Nat) (hk : k < 42) : nmCells[k]? = some (.string (nmT k)) := by
  unfold nmCells
  rw [List.getElem?_toArray, List.getElem?_map, nmL_at k hk]
  rfl
theorem Tabs.numAt {w : World} (h : Tabs w) (k j : Nat) (hk : k < 42) (hj : j < 5) : w.cell? ⟨0, k * 5 + j, none⟩ = some (.int .i64 (numT k j)) := by
  obtain ⟨t, fr, h0⟩ := h.num
  rw [cell_of_row w 0 _ _ t fr h0]
  exact numCells_at k hk j hj
theorem Tabs.nmAt {w : World} (h : Tabs w) (k : Nat) (hk : k < 42) : w.cell? ⟨1, k, none⟩ = some (.string (nmT k)) := by
  obtain ⟨t, fr, h0⟩ := h.nm
  rw [cell_of_row w 1 _ _ t fr h0]
  exact nmCells_at k hk
/-- The operation of a name: 0, if none has it. -/
def opOf (s : ByteArray) : Nat := ((List.range 42).find? fun k => decide (nmT k = s)).getD 0
theorem numT_bounds : ∀ k, k < 42 → ∀ j, j < 5 → 0 ≤ numT k j ∧ numT k j ≤ 20 := by decide +kernel
end Go.Proofs.YthpfndbhibbkmaaDoor
