/- ARGUMENTS THAT ARE SLICES, OPENED: whole numbers, strings, instructions (two whole numbers each): what their cells hold, and that a slice takes no more than the form's reach. -/
import Derived.Test.YtikoahjnhdnhdaaPlain
import Derived.SizedLaws
import Derived.ChangeSlices
import Derived.SliceStrings
import Derived.Deep.Slices
import Derived.OpenShut
import Derived.ProofKit
import Derived.Test.YtikoahjnhdnhdaaDigests
namespace Go.Proofs.Ytikoahjnhdnhdaa
open Go.ChangeShapes Go.WideShapes Go.ChangeAt Go.RowKit Go.Deep Go.Proofs.YtikoahjnhdnhdaaW.PrintWords
set_option linter.unusedVariables false

/-- A slice's elements, each one cell, at b, off. -/
def At1 (w : World) (a : Option Addr) (len b off : Nat) (f : Nat → Value) : Prop :=
  (0 < len → a = some ⟨b, off, none⟩ ∧ b < w.heap.size) ∧ ∀ i, i < len → w.cell? ⟨b, off + i, none⟩ = some (f i)

section
variable {H : Type} {enc : TypeId × Value → H} {P : Program} {W : World} {base : Nat} {sp : Nat → Bool} {held : Bool}

/-- Every slice of an argument takes at most the reach. -/
theorem sized_any {t e : TypeId} {a : Option Addr} {len cap : Nat} {d : DataW H} {ps : List MemPlace} {ts : List TypeId} {ds : List (DataW H)} {j : Nat}
    (hsz : (DataW.weightsEach P ts ds).all (· ≤ reachBytes) = true) (ht : ts[j]? = some t) (hd : ds[j]? = some d) (hu : P.underlying t = some (.slice e)) {B : Nat} (hB : P.bytesOf e = B)
    (h : DataW.Trod enc P W base sp held t (.slice a len cap) d ps) : len * B ≤ 140737488351232 := by
  obtain ⟨fuel, hf⟩ := h
  rcases open_slice hu hf with ⟨hcs, _⟩ | ⟨x, l, c, m, n, D, Pl, hcs, _, hl, _, hm, hx, _⟩
  · simp [Value.cells] at hcs
    obtain ⟨rfl, rfl, rfl⟩ := hcs
    simp
  · simp [Value.cells] at hcs
    obtain ⟨rfl, rfl, rfl⟩ := hcs
    obtain ⟨hx, _⟩ := Prod.mk.inj hx
    subst hx
    have z := sized_slice hsz ht hd hu
    rw [hB] at z
    simp only [List.length_map, List.length_range] at z
    exact Nat.le_trans (Nat.mul_le_mul_right _ (Nat.le_add_right _ _)) z

theorem addr_plain {w : World} {x : Addr} {v : Value} (h : w.cell? (x.add 0) = some v) : ∃ b off, x = ⟨b, off, none⟩ := by
  obtain ⟨b, off, spot⟩ := x
  have hspot : spot = none := by simpa [Addr.add] using World.cell?_spot h
  subst hspot
  exact ⟨b, off, rfl⟩

theorem at1_of_rows {w : World} {x : Addr} {len : Nat} {f : Nat → Value} (h : ∀ i, i < len → w.cell? (x.add i) = some (f i)) : ∃ b off, At1 w (some x) len b off f := by
  by_cases hp : 0 < len
  · obtain ⟨b, off, rfl⟩ := addr_plain (h 0 hp)
    refine ⟨b, off, fun _ => ⟨rfl, World.block_lt_of_cell? w _ (h 0 hp)⟩, fun i hi => ?_⟩
    have := h i hi
    rwa [Go.WideShapes.add_plain] at this
  · exact ⟨0, 0, fun h => absurd h hp, fun i hi => absurd hi (by omega)⟩

theorem ints_of_trod {t e : TypeId} {k : IntKind} {a : Option Addr} {len cap : Nat} {d : DataW H} {ps : List MemPlace} (hu : P.underlying t = some (.slice e)) (he : P.underlying e = some (.int k)) (hc : P.cellsOf e = 1)
    (h : DataW.Trod enc P W base sp held t (.slice a len cap) d ps) : ∃ (zs : List Int) (b off : Nat), At1 W a len b off (fun i => .int k (zs.getD i 0)) ∧ ∀ n ∈ zs, (Lit.int k n).wf = true := by
  obtain ⟨fuel, hf⟩ := h
  rcases open_ints hu he hc hf with ⟨hcs, _⟩ | ⟨x, l, c, zs, hcs, _, hl, hm, hz, _, hcell, hwz⟩
  · simp [Value.cells] at hcs
    obtain ⟨rfl, rfl, rfl⟩ := hcs
    exact ⟨[], 0, 0, ⟨fun h => absurd h (by omega), fun i hi => absurd hi (by omega)⟩, by simp⟩
  · simp [Value.cells] at hcs
    obtain ⟨rfl, rfl, rfl⟩ := hcs
    obtain ⟨b, off, h1⟩ := at1_of_rows (w := W) (x := x) (len := len) (f := fun i => .int k (zs.getD i 0)) (fun i hi => hcell i (by rw [hz]; split <;> omega))
    exact ⟨zs, b, off, h1, hwz⟩

theorem strs_of_trod {t e : TypeId} {a : Option Addr} {len cap : Nat} {d : DataW H} {ps : List MemPlace} (hu : P.underlying t = some (.slice e)) (he : P.underlying e = some .string) (hc : P.cellsOf e = 1)
    (h : DataW.Trod enc P W base sp held t (.slice a len cap) d ps) : ∃ (ss : List ByteArray) (b off : Nat), At1 W a len b off (fun i => .string (ss.getD i ByteArray.empty)) ∧ ∀ s ∈ ss, s.size ≤ maxLen := by
  obtain ⟨fuel, hf⟩ := h
  rcases open_strings hu he hc hf with ⟨hcs, _⟩ | ⟨x, l, c, ss, hcs, _, hl, hm, hz, _, hcell, hws⟩
  · simp [Value.cells] at hcs
    obtain ⟨rfl, rfl, rfl⟩ := hcs
    exact ⟨[], 0, 0, ⟨fun h => absurd h (by omega), fun i hi => absurd hi (by omega)⟩, by simp⟩
  · simp [Value.cells] at hcs
    obtain ⟨rfl, rfl, rfl⟩ := hcs
    obtain ⟨b, off, h1⟩ := at1_of_rows (w := W) (x := x) (len := len) (f := fun i => .string (ss.getD i ByteArray.empty)) (fun i hi => hcell i (by rw [hz]; split <;> omega))
    exact ⟨ss, b, off, h1, hws⟩

theorem digest_of_trod {fuel : Nat} {cs : List Value} {x : DataW H × List MemPlace} (h : DataW.trod enc Try.prog W base sp held fuel 24 cs = some x) :
    ∃ L : List Int, L.length = 32 ∧ cs = nums .u8 L ∧ ∀ j, 0 ≤ L.getD j 0 ∧ L.getD j 0 ≤ 255 := by
  obtain ⟨xs, m, rfl, rfl, hcl, hxl, hx⟩ := DataW.trod_array Try.underlying24 h
  have c5 : Try.prog.cellsOf 5 = 1 := by kernel_rfl
  have c24 : Try.prog.cellsOf 24 = 32 := by kernel_rfl
  rw [c24] at hcl
  simp only [c5, Nat.mul_one] at hx
  have each : ∀ i, i < 32 → ∃ z : Int, cs[i]? = some (.int .u8 z) ∧ (Lit.int .u8 z).wf = true := by
    intro i hi
    have h1 := hx i hi
    rw [List.getElem?_eq_getElem (by omega)] at h1
    obtain ⟨z, hc, _, hw⟩ := DataW.trod_int Try.underlying5 h1
    have := congrArg (fun l : List Value => l[0]?) hc
    refine ⟨z, ?_, hw⟩
    simpa [List.getElem?_take, List.getElem?_drop] using this
  refine ⟨cs.map intOf, by simpa using hcl, ?_, ?_⟩
  · apply List.ext_getElem?
    intro i
    by_cases hi : i < 32
    · obtain ⟨z, hz, _⟩ := each i hi
      simp [nums, hz, intOf]
    · rw [List.getElem?_eq_none (by omega), List.getElem?_eq_none (by simp [nums]; omega)]
  · intro j
    by_cases hj : j < 32
    · obtain ⟨z, hz, hw⟩ := each j hj
      have hb := bounds_u8 hw
      simp only [List.getD_eq_getElem?_getD, List.getElem?_map, hz, Option.map_some, Option.getD_some, intOf]
      exact hb
    · simp [List.getD_eq_getElem?_getD, List.getElem?_eq_none (show cs.length ≤ j by omega)]

theorem digests_of_trod {t : TypeId} {a : Option Addr} {len cap : Nat} {d : DataW H} {ps : List MemPlace} (hu : Try.prog.underlying t = some (.slice 24)) (hc : Try.prog.cellsOf 24 = 32)
    (h : DataW.Trod enc Try.prog W base sp held t (.slice a len cap) d ps) : ∃ (L : Nat → List Int) (b off : Nat), At32 W a len b off L ∧ True := by
  obtain ⟨fuel, hf⟩ := h
  rcases open_slice hu hf with ⟨hcs, _⟩ | ⟨x, l, c, m, n, D, Pl, hcs, hbase, hl, _, hm, hx, hel⟩
  · simp [Value.cells] at hcs
    obtain ⟨rfl, rfl, rfl⟩ := hcs
    exact ⟨fun _ => [], 0, 0, ⟨fun h => absurd h (by omega), fun i hi => absurd hi (by omega), fun i hi => absurd hi (by omega), fun i hi => absurd hi (by omega)⟩, trivial⟩
  · simp [Value.cells] at hcs
    obtain ⟨rfl, rfl, rfl⟩ := hcs
    rw [hc] at hel
    have hlm : len ≤ m := by rw [hm]; split <;> omega
    have hex : ∀ i, i < len → ∃ L : List Int, L.length = 32 ∧ (∀ j, 0 ≤ L.getD j 0 ∧ L.getD j 0 ≤ 255) ∧ ∀ j v, (nums .u8 L)[j]? = some v → W.cell? ((x.add (i * 32)).add j) = some v := by
      intro i hi
      obtain ⟨cs', h1, h2⟩ := hel i (by omega)
      obtain ⟨L, hL, rfl, hb⟩ := digest_of_trod h2
      obtain ⟨_, hlen, hcell⟩ := World.cells?_some h1
      exact ⟨L, hL, hb, fun j v hv => by
        have hj : j < 32 := by
          have := (List.getElem?_eq_some_iff.1 hv).1
          rw [nums_length] at this
          omega
        rw [hcell j hj]
        exact hv⟩
    by_cases hp : 0 < len
    · obtain ⟨L0, hL0, _, h0⟩ := hex 0 hp
      obtain ⟨v0, hv0⟩ : ∃ v, (nums .u8 L0)[0]? = some v := ⟨_, List.getElem?_eq_getElem (by rw [nums_length]; omega)⟩
      have hx0 := h0 0 v0 hv0
      rw [Nat.zero_mul] at hx0
      have hx0' : W.cell? (x.add 0) = some v0 := by simpa [Addr.add] using hx0
      obtain ⟨b, off, rfl⟩ := addr_plain hx0'
      refine ⟨fun i => if h : i < len then Classical.choose (hex i h) else [], b, off, ⟨fun _ => ⟨rfl, World.block_lt_of_cell? W _ hx0'⟩, fun i hi => ?_, fun i hi => ?_, fun i hi => ?_⟩, trivial⟩
      · have hs := Classical.choose_spec (hex i hi)
        simp only [dif_pos hi]
        intro j v hv
        have := hs.2.2 j v hv
        rwa [Go.WideShapes.add_plain, Go.WideShapes.add_plain] at this
      · have hs := Classical.choose_spec (hex i hi)
        simp only [dif_pos hi]
        exact hs.1
      · have hs := Classical.choose_spec (hex i hi)
        simp only [dif_pos hi]
        exact hs.2.1
    · exact ⟨fun _ => [], 0, 0, ⟨fun h => absurd h hp, fun i hi => absurd hi (by omega), fun i hi => absurd hi (by omega), fun i hi => absurd hi (by omega)⟩, trivial⟩
end
end Go.Proofs.Ytikoahjnhdnhdaa
