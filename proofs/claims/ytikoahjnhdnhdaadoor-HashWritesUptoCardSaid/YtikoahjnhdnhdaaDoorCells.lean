/- BLOCKS OF CELLS KNOWN WHOLE: an array's variable made, loaded, stored; a word of it read and written. -/
import Derived.Test.YtikoahjnhdnhdaaDoorTurn
import Derived.Deep.Slices
import Derived.SizedLaws
import Derived.Deep.RegionHeld3
import Derived.Deep.MidRow
import Derived.Laws.CopyRow
import Derived.Laws.CopyOwn
import Derived.Handy
namespace Go.Proofs.YtikoahjnhdnhdaaDoor
open Go.ChangeShapes Go.WideShapes Go.ChangeAt Go.RowKit Go.Proofs.YtikoahjnhdnhdaaDoorW.PrintWords Go.Deep
set_option linter.unusedVariables false
set_option linter.unusedSimpArgs false

theorem size5 : (Tryd.prog.info? 5).map (·.size) = some 1 := by kernel_rfl
theorem size49 : (Tryd.prog.info? 49).map (·.size) = some 1 := by kernel_rfl
theorem size23 : (Tryd.prog.info? 23).map (·.size) = some 32 := by kernel_rfl
theorem size50 : (Tryd.prog.info? 50).map (·.size) = some 64 := by kernel_rfl
theorem size52 : (Tryd.prog.info? 52).map (·.size) = some 8 := by kernel_rfl
theorem size57 : (Tryd.prog.info? 57).map (·.size) = some 73 := by kernel_rfl
theorem info5 : (Tryd.prog.info? 5).map (fun i => (i.zero, i.size, i.bytes)) = some (some (.int .u8 0), 1, 1) := by kernel_rfl

/-- The block b is of type t and holds just these cells. -/
def Bk (t : TypeId) (w : World) (b : Nat) (C : Array Value) : Prop := w.heap[b]? = some (.cells C t (0, 0))
section
variable {t : TypeId} {w w1 : World} {b : Nat} {C : Array Value}
theorem Bk.lt (h : Bk t w b C) : b < w.heap.size := (Array.getElem?_eq_some_iff.1 h).1
theorem Bk.new (t : TypeId) (w : World) (C : Array Value) : Bk t (w.alloc (.cells C t)) w.heap.size C := heap_alloc_new w _
theorem Bk.alloc (h : Bk t w b C) (o : Obj) : Bk t (w.alloc o) b C := (Below.heap_alloc w o b h.lt).trans h
theorem Bk.below (h : Bk t w b C) (hb : Below w.heap.size w w1) : Bk t w1 b C := (hb.block b h.lt).trans h
theorem Bk.drew (h : Bk t w b C) : Bk t w.drew b C := h
theorem Bk.drewN (h : Bk t w b C) (n : Nat) : Bk t (w.drewN n) b C := h
theorem Bk.set (h : Bk t w b C) (i : Nat) (u : Value) : Bk t (w.setCell ⟨b, i, none⟩ u) b (C.setIfInBounds i u) := blk_set h i u
theorem Bk.far (h : Bk t w b C) {p : Addr} (hp : b ≠ p.block) (u : Value) : Bk t (w.setCell p u) b C := blk_far h hp u
theorem Bk.cell (h : Bk t w b C) (i : Nat) : w.cell? ⟨b, i, none⟩ = C[i]? := blk_cell h i
theorem Bk.frozen (h : Bk t w b C) (i : Nat) : w.frozen? ⟨b, i, none⟩ = false := blk_frozen h i
theorem Bk.range (h : Bk t w b C) : w.rangeAt b 0 C.toList := fun j v hv => by
  rw [Nat.zero_add, h.cell]
  simpa using hv
theorem Bk.range_at (h : Bk t w b C) (o : Nat) (cs : List Value) (hc : ∀ j v, cs[j]? = some v → C[o + j]? = some v) : w.rangeAt b o cs := fun j v hv => by
  rw [h.cell]
  exact hc j v hv
end

/-! ### Loads, under names that the walk opens by these laws alone -/
def load23 (v : Value) : Sem Value := Instr.loadAt 23 v
theorem loadAt_23 (v : Value) : Instr.loadAt 23 v = load23 v := rfl
def load50 (v : Value) : Sem Value := Instr.loadAt 50 v
theorem loadAt_50 (v : Value) : Instr.loadAt 50 v = load50 v := rfl
def load52 (v : Value) : Sem Value := Instr.loadAt 52 v
theorem loadAt_52 (v : Value) : Instr.loadAt 52 v = load52 v := rfl
def load57 (v : Value) : Sem Value := Instr.loadAt 57 v
theorem loadAt_57 (v : Value) : Instr.loadAt 57 v = load57 v := rfl
theorem run_load23 (w : World) (b o : Nat) (cs : List Value) (hl : cs.length = 32) (h : w.rangeAt b o cs) : (load23 (.pointer (some ⟨b, o, none⟩))).run Tryd.prog w = .ok (.agg cs.toArray) w :=
  run_loadAt_mid (P := Tryd.prog) w b o 23 cs _ h Tryd.underlying23 rfl (by rw [hl]; exact size23)
theorem run_load50 (w : World) (b o : Nat) (cs : List Value) (hl : cs.length = 64) (h : w.rangeAt b o cs) : (load50 (.pointer (some ⟨b, o, none⟩))).run Tryd.prog w = .ok (.agg cs.toArray) w :=
  run_loadAt_mid (P := Tryd.prog) w b o 50 cs _ h Tryd.underlying50 rfl (by rw [hl]; exact size50)
theorem run_load52 (w : World) (b o : Nat) (cs : List Value) (hl : cs.length = 8) (h : w.rangeAt b o cs) : (load52 (.pointer (some ⟨b, o, none⟩))).run Tryd.prog w = .ok (.agg cs.toArray) w :=
  run_loadAt_mid (P := Tryd.prog) w b o 52 cs _ h Tryd.underlying52 rfl (by rw [hl]; exact size52)
theorem run_load57 (w : World) (b o : Nat) (cs : List Value) (hl : cs.length = 73) (h : w.rangeAt b o cs) : (load57 (.pointer (some ⟨b, o, none⟩))).run Tryd.prog w = .ok (.agg cs.toArray) w :=
  run_loadAt_mid (P := Tryd.prog) w b o 57 cs _ h Tryd.underlying57 rfl (by rw [hl]; exact size57)

/-! ### Variables made -/
@[irreducible] def z23 : Array Value := (nums .u8 (List.replicate 32 0)).toArray
@[irreducible] def z50 : Array Value := (nums .u32 (List.replicate 64 0)).toArray
@[irreducible] def z52 : Array Value := (nums .u32 (List.replicate 8 0)).toArray
@[irreducible] def z57 : Array Value := (nums .u32 (List.replicate 8 0) ++ nums .u8 (List.replicate 64 0) ++ [Value.int .i64 0]).toArray
def alloc23 : Sem Value := Instr.alloc 23 true (.tuple #[])
theorem alloc_23 : Instr.alloc 23 true (.tuple #[]) = alloc23 := rfl
theorem run_alloc23 (w : World) : alloc23.run Tryd.prog w = .ok (.pointer (some ⟨w.heap.size, 0, none⟩)) (w.alloc (.cells z23 23)) := by kernel_rfl
def alloc50 : Sem Value := Instr.alloc 50 true (.tuple #[])
theorem alloc_50 : Instr.alloc 50 true (.tuple #[]) = alloc50 := rfl
theorem run_alloc50 (w : World) : alloc50.run Tryd.prog w = .ok (.pointer (some ⟨w.heap.size, 0, none⟩)) (w.alloc (.cells z50 50)) := by kernel_rfl
def alloc52 : Sem Value := Instr.alloc 52 true (.tuple #[])
theorem alloc_52 : Instr.alloc 52 true (.tuple #[]) = alloc52 := rfl
theorem run_alloc52 (w : World) : alloc52.run Tryd.prog w = .ok (.pointer (some ⟨w.heap.size, 0, none⟩)) (w.alloc (.cells z52 52)) := by kernel_rfl
def alloc57 : Sem Value := Instr.alloc 57 true (.tuple #[])
theorem alloc_57 : Instr.alloc 57 true (.tuple #[]) = alloc57 := rfl
theorem run_alloc57 (w : World) : alloc57.run Tryd.prog w = .ok (.pointer (some ⟨w.heap.size, 0, none⟩)) (w.alloc (.cells z57 57)) := by kernel_rfl
def build23 : Sem Value := Instr.build 23 #[]
theorem build_23 : Instr.build 23 #[] = build23 := rfl
theorem run_build23 (w : World) : build23.run Tryd.prog w = .ok (.agg z23) w := by kernel_rfl
theorem z23_size : z23.size = 32 := by kernel_rfl
theorem z50_size : z50.size = 64 := by kernel_rfl
theorem z52_size : z52.size = 8 := by kernel_rfl
theorem z57_size : z57.size = 73 := by kernel_rfl

/-! ### Stored whole -/
def store23 (p v : Value) : Sem Unit := Instr.storeAt 23 p v
theorem storeAt_23 (p v : Value) : Instr.storeAt 23 p v = store23 p v := rfl
def store50 (p v : Value) : Sem Unit := Instr.storeAt 50 p v
theorem storeAt_50 (p v : Value) : Instr.storeAt 50 p v = store50 p v := rfl
def store52 (p v : Value) : Sem Unit := Instr.storeAt 52 p v
theorem storeAt_52 (p v : Value) : Instr.storeAt 52 p v = store52 p v := rfl
def store57 (p v : Value) : Sem Unit := Instr.storeAt 57 p v
theorem storeAt_57 (p v : Value) : Instr.storeAt 57 p v = store57 p v := rfl

theorem setCells_bk (t : TypeId) (b : Nat) : ∀ (vs : List Value) (o : Nat) (w : World) (C : Array Value), Bk t w b C → o + vs.length ≤ C.size → Bk t (w.setCells b o vs) b (C.toList.take o ++ vs ++ C.toList.drop (o + vs.length)).toArray ∧ (∀ k, k ≠ b → (w.setCells b o vs).heap[k]? = w.heap[k]?) ∧ (w.setCells b o vs).heap.size = w.heap.size ∧ (w.setCells b o vs).os = w.os ∧ (w.setCells b o vs).tape = w.tape ∧ (w.setCells b o vs).output = w.output := by
  intro vs
  induction vs with
  | nil =>
    intro o w C h _
    refine ⟨?_, fun _ _ => rfl, rfl, rfl, rfl, rfl⟩
    have h0 : Bk t w b (C.toList.take o ++ [] ++ C.toList.drop (o + ([] : List Value).length)).toArray := by simpa using h
    exact h0
  | cons v vs ih =>
    intro o w C h hl
    rw [List.length_cons] at hl
    have h1 := h.set o v
    obtain ⟨a1, a2, a3, a4, a5, a6⟩ := ih (o + 1) (w.setCell ⟨b, o, none⟩ v) (C.setIfInBounds o v) h1 (by simp; omega)
    refine ⟨?_, fun k hk => (a2 k hk).trans (Below.heap_setCell w ⟨b, o, none⟩ v k hk), a3.trans (by simp [World.setCell]), a4, a5, a6⟩
    have e : ((C.setIfInBounds o v).toList.take (o + 1) ++ vs ++ (C.setIfInBounds o v).toList.drop (o + 1 + vs.length)) = (C.toList.take o ++ (v :: vs) ++ C.toList.drop (o + (v :: vs).length)) := by
      rw [Array.toList_setIfInBounds, List.length_cons]
      have ho : o < C.toList.length := by rw [Array.length_toList]; omega
      rw [List.take_succ_eq_append_getElem (by simpa using ho), List.take_set_of_le (Nat.le_refl _), List.drop_set_of_lt (by omega)]
      simp [Nat.add_assoc, Nat.add_comm 1]
    rw [← e]
    exact a1

/-- Only block b has turned, and what is new. -/
theorem grown_setCells {t : TypeId} {w : World} {b : Nat} {C : Array Value} (h : Bk t w b C) (vs : List Value) (o : Nat) (hf : o + vs.length ≤ C.size) : w.grownBy (w.setCells b o vs) (some b) := by
  obtain ⟨_, a2, a3, a4, a5, a6⟩ := setCells_bk t b vs o w C h hf
  exact ⟨a4, a5, a6, by rw [a3]; exact Nat.le_refl _, fun i _ hi => a2 i (fun e => hi (by rw [e]))⟩

theorem Bk.store_whole {t ty : TypeId} {w : World} {b : Nat} {C : Array Value} (h : Bk t w b C) (D : Array Value) (hD : D.size = C.size) (hs : (Tryd.prog.info? ty).map (·.size) = some D.size) (h1 : ∀ v ∈ D.toList, v.oneCell' = true) :
    ∃ w1, (Instr.storeAt ty (.pointer (some ⟨b, 0, none⟩)) (.agg D)).run Tryd.prog w = .ok () w1 ∧ Bk t w1 b D ∧ w.grownBy w1 (some b) ∧ w1.heap.size = w.heap.size := by
  have ht : w.there b 0 D.size := fun j hj => ⟨by rw [Nat.zero_add, h.cell, Array.getElem?_eq_getElem (by omega)]; rfl, h.frozen _⟩
  have hst := run_storeAt_mid (P := Tryd.prog) w b 0 ty D ht hs (Array.all_eq_true_iff_forall_mem.2 (fun v hv => h1 v (by simpa using hv)))
  obtain ⟨a1, a2, a3, _⟩ := setCells_bk t b D.toList 0 w C h (by simp; omega)
  refine ⟨_, hst, ?_, grown_setCells h _ _ (by simp; omega), a3⟩
  have e : (C.toList.take 0 ++ D.toList ++ C.toList.drop (0 + D.toList.length)).toArray = D := by
    rw [List.drop_eq_nil_of_le (by simp; omega)]
    simp
  rw [e] at a1
  exact a1
theorem nums_one (k : IntKind) (L : List Int) : ∀ v ∈ (nums k L).toArray.toList, v.oneCell' = true := by
  intro v hv
  simp [nums] at hv
  obtain ⟨x, _, rfl⟩ := hv
  rfl
theorem nums_at (k : IntKind) (L : List Int) (i : Nat) (h : i < L.length) : (nums k L).toArray[i]? = some (.int k (L.getD i 0)) := by
  simp [nums, h, List.getD_eq_getElem?_getD]
theorem set_nums (k : IntKind) (L : List Int) (i : Nat) (c : Int) : (nums k L).toArray.setIfInBounds i (.int k c) = (nums k (L.set i c)).toArray := by
  simp [nums, List.map_set]
theorem below_of_grown {w w1 : World} {b B : Nat} (h : w.grownBy w1 (some b)) (hB : B ≤ b) (hs : B ≤ w.heap.size) : Below B w w1 :=
  (Below.refl B w).grown h hs (fun k hk => by injection hk with hk; omega)

/-! ### A word of an array that is a value -/
theorem run_index50 (cs : Array Value) (i : Nat) (v : Value) (hi : i < 64) (hv : cs[i]? = some v) (w : World) :
    (Instr.index 50 (.agg cs) (.int .i64 (i : Int))).run Tryd.prog w = .ok v w := by
  obtain ⟨j, hj, hs⟩ := Option.map_eq_some_iff.1 size49
  have hc : ¬ 64 ≤ i := by omega
  simp [Instr.index, run_underlying Tryd.underlying50, asIntOf, hc, part, Sem.run_bind, sizeOf, typeInfo, hj, hs, hv]
theorem run_index52 (cs : Array Value) (i : Nat) (v : Value) (hi : i < 8) (hv : cs[i]? = some v) (w : World) :
    (Instr.index 52 (.agg cs) (.int .i64 (i : Int))).run Tryd.prog w = .ok v w := by
  obtain ⟨j, hj, hs⟩ := Option.map_eq_some_iff.1 size49
  have hc : ¬ 8 ≤ i := by omega
  simp [Instr.index, run_underlying Tryd.underlying52, asIntOf, hc, part, Sem.run_bind, sizeOf, typeInfo, hj, hs, hv]
end Go.Proofs.YtikoahjnhdnhdaaDoor
