/- ARGUMENTS THAT ARE SLICES, OPENED: whole numbers, strings, instructions (two whole numbers each): what their cells hold, and that a slice takes no more than the form's reach. -/
import Derived.Test.YtikoahjnhdnhdaaDoorPlain
import Derived.SizedLaws
import Derived.ChangeSlices
import Derived.SliceStrings
import Derived.Deep.Slices
import Derived.OpenShut
import Derived.ProofKit
namespace Go.Proofs.YtikoahjnhdnhdaaDoor
open Go.ChangeShapes Go.WideShapes Go.ChangeAt Go.RowKit Go.Deep
set_option linter.unusedVariables false

/-- A slice's elements, each one cell, at b, off. -/
def At1 (w : World) (a : Option Addr) (len b off : Nat) (f : Nat → Value) : Prop :=
  (0 < len → a = some ⟨b, off, none⟩ ∧ b < w.heap.size) ∧ ∀ i, i < len → w.cell? ⟨b, off + i, none⟩ = some (f i)

section
variable {H : Type} {enc : TypeId × Value → H} {P : Program} {W : World} {base : Nat} {sp : Nat → Bool} {held : Bool}

/-- Every slice of an argument takes at most the reach. -/
theorem sized_any {t e : TypeId} {a : Option Addr} {len cap : Nat} {d : DataW H} {ps : List MemPlace} {ts : List TypeId} {ds : List (DataW H)} {j : Nat}
    (hsz : (DataW.weightsEach P ts ds).all (· ≤ reachBytes) = true) (ht : ts[j]? = some t) (hd : ds[j]? = some d) (hu : P.underlying t = some (.slice e)) {B : Nat} (hB : P.bytesOf e = B)
    (h : DataW.Trod enc P W base sp held t (.slice a len cap) d ps) : len * B ≤ 140737488351232 := by
  obtain ⟨fuel, hf⟩ := h
  rcases open_slice hu hf with ⟨hcs, _⟩ | ⟨x, l, c, m, n, D, Pl, hcs, _, hl, _, hm, hx, _⟩
  · simp [Value.cells] at hcs
    obtain ⟨rfl, rfl, rfl⟩ := hcs
    simp
  · simp [Value.cells] at hcs
    obtain ⟨rfl, rfl, rfl⟩ := hcs
    obtain ⟨hx, _⟩ := Prod.mk.inj hx
    subst hx
    have z := sized_slice hsz ht hd hu
    rw [hB] at z
    simp only [List.length_map, List.length_range] at z
    exact Nat.le_trans (Nat.mul_le_mul_right _ (Nat.le_add_right _ _)) z

theorem addr_plain {w : World} {x : Addr} {v : Value} (h : w.cell? (x.add 0) = some v) : ∃ b off, x = ⟨b, off, none⟩ := by
  obtain ⟨b, off, spot⟩ := x
  have hspot : spot = none := by simpa [Addr.add] using World.cell?_spot h
  subst hspot
  exact ⟨b, off, rfl⟩

theorem at1_of_rows {w : World} {x : Addr} {len : Nat} {f : Nat → Value} (h : ∀ i, i < len → w.cell? (x.add i) = some (f i)) : ∃ b off, At1 w (some x) len b off f := by
  by_cases hp : 0 < len
  · obtain ⟨b, off, rfl⟩ := addr_plain (h 0 hp)
    refine ⟨b, off, fun _ => ⟨rfl, World.block_lt_of_cell? w _ (h 0 hp)⟩, fun i hi => ?_⟩
    have := h i hi
    rwa [Go.WideShapes.add_plain] at this
  · exact ⟨0, 0, fun h => absurd h hp, fun i hi => absurd hi (by omega)⟩

theorem ints_of_trod {t e : TypeId} {k : IntKind} {a : Option Addr} {len cap : Nat} {d : DataW H} {ps : List MemPlace} (hu : P.underlying t = some (.slice e)) (he : P.underlying e = some (.int k)) (hc : P.cellsOf e = 1)
    (h : DataW.Trod enc P W base sp held t (.slice a len cap) d ps) : ∃ (zs : List Int) (b off : Nat), At1 W a len b off (fun i => .int k (zs.getD i 0)) ∧ ∀ n ∈ zs, (Lit.int k n).wf = true := by
  obtain ⟨fuel, hf⟩ := h
  rcases open_ints hu he hc hf with ⟨hcs, _⟩ | ⟨x, l, c, zs, hcs, _, hl, hm, hz, _, hcell, hwz⟩
  · simp [Value.cells] at hcs
    obtain ⟨rfl, rfl, rfl⟩ := hcs
    exact ⟨[], 0, 0, ⟨fun h => absurd h (by omega), fun i hi => absurd hi (by omega)⟩, by simp⟩
  · simp [Value.cells] at hcs
    obtain ⟨rfl, rfl, rfl⟩ := hcs
    obtain ⟨b, off, h1⟩ := at1_of_rows (w := W) (x := x) (len := len) (f := fun i => .int k (zs.getD i 0)) (fun i hi => hcell i (by rw [hz]; split <;> omega))
    exact ⟨zs, b, off, h1, hwz⟩

theorem strs_of_trod {t e : TypeId} {a : Option Addr} {len cap : Nat} {d : DataW H} {ps : List MemPlace} (hu : P.underlying t = some (.slice e)) (he : P.underlying e = some .string) (hc : P.cellsOf e = 1)
    (h : DataW.Trod enc P W base sp held t (.slice a len cap) d ps) : ∃ (ss : List ByteArray) (b off : Nat), At1 W a len b off (fun i => .string (ss.getD i ByteArray.empty)) ∧ ∀ s ∈ ss, s.size ≤ maxLen := by
  obtain ⟨fuel, hf⟩ := h
  rcases open_strings hu he hc hf with ⟨hcs, _⟩ | ⟨x, l, c, ss, hcs, _, hl, hm, hz, _, hcell, hws⟩
  · simp [Value.cells] at hcs
    obtain ⟨rfl, rfl, rfl⟩ := hcs
    exact ⟨[], 0, 0, ⟨fun h => absurd h (by omega), fun i hi => absurd hi (by omega)⟩, by simp⟩
  · simp [Value.cells] at hcs
    obtain ⟨rfl, rfl, rfl⟩ := hcs
    obtain ⟨b, off, h1⟩ := at1_of_rows (w := W) (x := x) (len := len) (f := fun i => .string (ss.getD i ByteArray.empty)) (fun i hi => hcell i (by rw [hz]; split <;> omega))
    exact ⟨ss, b, off, h1, hws⟩
end
end Go.Proofs.YtikoahjnhdnhdaaDoor
