/- A WHOLE DIGEST READ OUT OF MEMORY, and the argument [][32]byte, opened: its digests are rows of 32 numbers from 0 to 255. -/
import Derived.Test.YtikoahjnhdnhdaaHexR
import Derived.Test.YtikoahjnhdnhdaaPlain
import Derived.Deep.Slices
import Derived.SizedLaws
import Derived.Deep.RegionHeld3
import Derived.Deep.MidRow
namespace Go.Proofs.Ytikoahjnhdnhdaa
open Go.ChangeShapes Go.WideShapes Go.ChangeAt Go.RowKit Go.Proofs.YtikoahjnhdnhdaaW.PrintWords Go.Deep
set_option linter.unusedVariables false

theorem rangeAt_below {W w1 : World} {b o : Nat} {cs : List Value} (hb : Below W.heap.size W w1) (h : W.rangeAt b o cs) : w1.rangeAt b o cs :=
  fun j v hv => (hb.cell (p := ⟨b, o + j, none⟩) (World.block_lt_of_cell? W _ (h j v hv))).trans (h j v hv)

/-- The load of a whole digest, under names that the walk opens by the two laws below alone (attribute [local go_sem] in the walk's text). -/
def load24 (v : Value) : Sem Value := Instr.loadAt 24 v
theorem loadAt_24 (v : Value) : Instr.loadAt 24 v = load24 v := rfl
theorem run_load24 (w : World) (b o : Nat) (cs : List Value) (hl : cs.length = 32) (h : w.rangeAt b o cs) : (load24 (.pointer (some ⟨b, o, none⟩))).run Try.prog w = .ok (.agg cs.toArray) w :=
  run_loadAt_mid (P := Try.prog) w b o 24 cs _ h Try.underlying24 rfl (by rw [hl]; exact size24)

/-- The digests of an argument. -/
structure At32 (w : World) (a : Option Addr) (len b off : Nat) (L : Nat → List Int) : Prop where
  place : 0 < len → a = some ⟨b, off, none⟩ ∧ b < w.heap.size
  cells : ∀ i, i < len → w.rangeAt b (off + i * 32) (nums .u8 (L i))
  len32 : ∀ i, i < len → (L i).length = 32
  byte : ∀ i, i < len → ∀ j, 0 ≤ (L i).getD j 0 ∧ (L i).getD j 0 ≤ 255

/-! ### A digest's variable: made, loaded, stored whole -/
@[irreducible] def zc : Array Value := (nums .u8 (List.replicate 32 0)).toArray
def alloc24 : Sem Value := Instr.alloc 24 true (.tuple #[])
theorem alloc_24 : Instr.alloc 24 true (.tuple #[]) = alloc24 := rfl
theorem run_alloc24 (w : World) : alloc24.run Try.prog w = .ok (.pointer (some ⟨w.heap.size, 0, none⟩)) (w.alloc (.cells zc 24)) := by kernel_rfl
def build24 : Sem Value := Instr.build 24 #[]
theorem build_24 : Instr.build 24 #[] = build24 := rfl
theorem run_build24 (w : World) : build24.run Try.prog w = .ok (.agg zc) w := by kernel_rfl
def store24 (p v : Value) : Sem Unit := Instr.storeAt 24 p v
theorem storeAt_24 (p v : Value) : Instr.storeAt 24 p v = store24 p v := rfl
theorem zc_size : zc.size = 32 := by kernel_rfl

/-- The block b holds just these 32 cells. -/
def Blk (w : World) (b : Nat) (C : Array Value) : Prop := w.heap[b]? = some (.cells C 24 (0, 0))
theorem Blk.lt {w : World} {b : Nat} {C : Array Value} (h : Blk w b C) : b < w.heap.size := (Array.getElem?_eq_some_iff.1 h).1
theorem Blk.new (w : World) (C : Array Value) : Blk (w.alloc (.cells C 24)) w.heap.size C := heap_alloc_new w _
theorem Blk.alloc {w : World} {b : Nat} {C : Array Value} (h : Blk w b C) (o : Obj) : Blk (w.alloc o) b C := (Below.heap_alloc w o b h.lt).trans h
theorem Blk.below {w w1 : World} {b : Nat} {C : Array Value} (h : Blk w b C) (hb : Below w.heap.size w w1) : Blk w1 b C := (hb.block b h.lt).trans h
theorem Blk.set {w : World} {b : Nat} {C : Array Value} (h : Blk w b C) (i : Nat) (u : Value) : Blk (w.setCell ⟨b, i, none⟩ u) b (C.setIfInBounds i u) := blk_set h i u
theorem Blk.far {w : World} {b : Nat} {C : Array Value} (h : Blk w b C) {p : Addr} (hp : b ≠ p.block) (u : Value) : Blk (w.setCell p u) b C := blk_far h hp u
theorem Blk.cell {w : World} {b : Nat} {C : Array Value} (h : Blk w b C) (i : Nat) : w.cell? ⟨b, i, none⟩ = C[i]? := blk_cell h i
theorem Blk.frozen {w : World} {b : Nat} {C : Array Value} (h : Blk w b C) (i : Nat) : w.frozen? ⟨b, i, none⟩ = false := blk_frozen h i
theorem Blk.range {w : World} {b : Nat} {C : Array Value} (h : Blk w b C) : w.rangeAt b 0 C.toList := fun j v hv => by
  rw [Nat.zero_add, h.cell]
  simpa using hv
theorem Blk.load {w : World} {b : Nat} {C : Array Value} (h : Blk w b C) (hC : C.size = 32) : (load24 (.pointer (some ⟨b, 0, none⟩))).run Try.prog w = .ok (.agg C) w := by
  have := run_load24 w b 0 C.toList (by simpa using hC) h.range
  simpa using this
theorem Blk.var {w : World} {b : Nat} {C : Array Value} (h : Blk w b C) (hC : C.size = 32) : (loadVar 24 ⟨b, 0, none⟩).run Try.prog w = .ok (.agg C) w := by
  have := run_loadVar_mid (P := Try.prog) w b 0 24 C.toList _ h.range Try.underlying24 rfl (by rw [Array.length_toList, hC]; exact size24)
  simpa using this

theorem setCells_heap (b : Nat) : ∀ (vs : List Value) (o : Nat) (w : World) (C : Array Value), Blk w b C → o + vs.length ≤ C.size → Blk (w.setCells b o vs) b (C.toList.take o ++ vs ++ C.toList.drop (o + vs.length)).toArray ∧ (∀ k, k ≠ b → (w.setCells b o vs).heap[k]? = w.heap[k]?) ∧ (w.setCells b o vs).heap.size = w.heap.size ∧ (w.setCells b o vs).os = w.os ∧ (w.setCells b o vs).tape = w.tape ∧ (w.setCells b o vs).output = w.output := by
  intro vs
  induction vs with
  | nil =>
    intro o w C h _
    refine ⟨?_, fun _ _ => rfl, rfl, rfl, rfl, rfl⟩
    have h0 : Blk w b (C.toList.take o ++ [] ++ C.toList.drop (o + ([] : List Value).length)).toArray := by simpa using h
    exact h0
  | cons v vs ih =>
    intro o w C h hl
    rw [List.length_cons] at hl
    have h1 := h.set o v
    obtain ⟨a1, a2, a3, a4, a5, a6⟩ := ih (o + 1) (w.setCell ⟨b, o, none⟩ v) (C.setIfInBounds o v) h1 (by simp; omega)
    refine ⟨?_, fun k hk => (a2 k hk).trans (Below.heap_setCell w ⟨b, o, none⟩ v k hk), a3.trans (by simp [World.setCell]), a4, a5, a6⟩
    have e : ((C.setIfInBounds o v).toList.take (o + 1) ++ vs ++ (C.setIfInBounds o v).toList.drop (o + 1 + vs.length)) = (C.toList.take o ++ (v :: vs) ++ C.toList.drop (o + (v :: vs).length)) := by
      rw [Array.toList_setIfInBounds, List.length_cons]
      have ho : o < C.toList.length := by rw [Array.length_toList]; omega
      rw [List.take_succ_eq_append_getElem (by simpa using ho), List.take_set_of_le (Nat.le_refl _), List.drop_set_of_lt (by omega)]
      simp [Nat.add_assoc, Nat.add_comm 1]
    rw [← e]
    exact a1

theorem Blk.store {w : World} {b : Nat} {C : Array Value} (h : Blk w b C) (hC : C.size = 32) (D : Array Value) (hD : D.size = 32) (h1 : ∀ v ∈ D.toList, v.oneCell' = true) :
    ∃ w1, (store24 (.pointer (some ⟨b, 0, none⟩)) (.agg D)).run Try.prog w = .ok () w1 ∧ Blk w1 b D ∧ (∀ B, B ≤ b → Below B w w1) ∧ (∀ k, k ≠ b → w1.heap[k]? = w.heap[k]?) := by
  have ht : w.there b 0 D.size := fun j hj => ⟨by rw [Nat.zero_add, h.cell, Array.getElem?_eq_getElem (by omega)]; rfl, h.frozen _⟩
  have hs := run_storeAt_mid (P := Try.prog) w b 0 24 D ht (by rw [hD]; exact size24) (Array.all_eq_true_iff_forall_mem.2 (fun v hv => h1 v (by simpa using hv)))
  obtain ⟨a1, a2, a3, a4, a5, a6⟩ := setCells_heap b D.toList 0 w C h (by simp; omega)
  refine ⟨_, hs, ?_, fun B hB => ⟨a4, a5, a6, by rw [a3]; exact Nat.le_refl _, fun k hk => a2 k (by omega)⟩, a2⟩
  have e : (C.toList.take 0 ++ D.toList ++ C.toList.drop (0 + D.toList.length)).toArray = D := by
    rw [List.drop_eq_nil_of_le (by simp; omega)]
    simp
  rw [e] at a1
  exact a1
theorem nums_one (L : List Int) : ∀ v ∈ (nums .u8 L).toArray.toList, v.oneCell' = true := by
  intro v hv
  simp [nums] at hv
  obtain ⟨x, _, rfl⟩ := hv
  rfl
theorem zc_one : ∀ v ∈ zc.toList, v.oneCell' = true := by
  have : zc = (nums .u8 (List.replicate 32 0)).toArray := by unfold zc; rfl
  rw [this]
  exact nums_one _
theorem zc_digest : Value.agg zc = digestV (List.replicate 32 0) := by
  unfold zc digestV
  rfl
end Go.Proofs.Ytikoahjnhdnhdaa
