/- A WHOLE DIGEST READ OUT OF MEMORY, and the argument [][32]byte, opened: its digests are rows of 32 numbers from 0 to 255. -/
import Derived.Test.YtikoahjnhdnhdaaHexR
import Derived.Test.YtikoahjnhdnhdaaPlain
import Derived.Deep.Slices
import Derived.SizedLaws
import Derived.Deep.RegionHeld3
import Derived.Deep.MidRow
namespace Go.Proofs.Ytikoahjnhdnhdaa
open Go.ChangeShapes Go.WideShapes Go.ChangeAt Go.RowKit Go.Proofs.YtikoahjnhdnhdaaW.PrintWords Go.Deep
set_option linter.unusedVariables false

theorem rangeAt_below {W w1 : World} {b o : Nat} {cs : List Value} (hb : Below W.heap.size W w1) (h : W.rangeAt b o cs) : w1.rangeAt b o cs :=
  fun j v hv => (hb.cell (p := ⟨b, o + j, none⟩) (World.block_lt_of_cell? W _ (h j v hv))).trans (h j v hv)

/-- The load of a whole digest, under names that the walk opens by the two laws below alone (attribute [local go_sem] in the walk's text). -/
def load24 (v : Value) : Sem Value := Instr.loadAt 24 v
theorem loadAt_24 (v : Value) : Instr.loadAt 24 v = load24 v := rfl
theorem run_load24 (w : World) (b o : Nat) (cs : List Value) (hl : cs.length = 32) (h : w.rangeAt b o cs) : (load24 (.pointer (some ⟨b, o, none⟩))).run Try.prog w = .ok (.agg cs.toArray) w :=
  run_loadAt_mid (P := Try.prog) w b o 24 cs _ h Try.underlying24 rfl (by rw [hl]; exact size24)

/-- The digests of an argument. -/
structure At32 (w : World) (a : Option Addr) (len b off : Nat) (L : Nat → List Int) : Prop where
  place : 0 < len → a = some ⟨b, off, none⟩ ∧ b < w.heap.size
  cells : ∀ i, i < len → w.rangeAt b (off + i * 32) (nums .u8 (L i))
  len32 : ∀ i, i < len → (L i).length = 32
  byte : ∀ i, i < len → ∀ j, 0 ≤ (L i).getD j 0 ∧ (L i).getD j 0 ≤ 255
end Go.Proofs.Ytikoahjnhdnhdaa
