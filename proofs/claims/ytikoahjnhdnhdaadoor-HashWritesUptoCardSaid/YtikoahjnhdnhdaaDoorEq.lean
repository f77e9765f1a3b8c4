/- DIGESTS COMPARED; []byte(s). -/
import Derived.Test.YtikoahjnhdnhdaaDoorLent
import Derived.ChangeKeysEq
namespace Go.Proofs.YtikoahjnhdnhdaaDoor
open Go.ChangeShapes Go.WideShapes Go.ChangeAt Go.RowKit Go.Proofs.YtikoahjnhdnhdaaDoorW.PrintWords Go.Deep
set_option linter.unusedVariables false

theorem cells5 : Tryd.prog.cellsOf 5 = 1 := by kernel_rfl
theorem part5 (L : List Int) (i : Nat) (hi : i < L.length) (w : World) : (part 5 (nums .u8 L).toArray i).run Tryd.prog w = .ok (.int .u8 (L.getD i 0)) w := by
  obtain ⟨j, hj, hs⟩ := Option.map_eq_some_iff.1 size5
  simp [part, Sem.run_bind, sizeOf, typeInfo, hj, hs, nums, hi, List.getD_eq_getElem?_getD]
theorem items_same (A : List Int) (hA : A.length = 32) (d : Nat) (w : World) (is : List Nat) (his : ∀ i ∈ is, i < 32) :
    (Op.eqItems (d + 1) 5 1 (nums .u8 A).toArray (nums .u8 A).toArray is).run Tryd.prog w = .ok true w := by
  induction is with
  | nil => simp [Op.eqItems]
  | cons i is ih =>
    have h1 := ih (fun j hj => his j (List.mem_cons_of_mem _ hj))
    have hi : i < 32 := his i List.mem_cons_self
    simp only [Op.eqItems, Sem.run_bind, Nat.mul_one, part5 A i (by omega), Result.andThen_ok]
    have he : (Op.equalIn (d + 1) 5 (.int .u8 (A.getD i 0)) (.int .u8 (A.getD i 0))).run Tryd.prog w = .ok true w := by
      simp [Op.equalIn, Sem.run_bind, run_underlying Tryd.underlying5]
    rw [he]
    simpa using h1
theorem eq23 (A : List Int) (hA : A.length = 32) (w : World) : (Op.equalIn 10000 23 (.agg (nums .u8 A).toArray) (.agg (nums .u8 A).toArray)).run Tryd.prog w = .ok true w := by
  obtain ⟨i, hi, hs⟩ := Option.map_eq_some_iff.1 info5
  have h := run_equalIn_array (P := Tryd.prog) (w := w) 9999 (nums .u8 A).toArray (nums .u8 A).toArray Tryd.underlying23 hi
  rw [cells5, items_same A hA 9998 w _ (by simp)] at h
  exact h

theorem cap_ge (W : World) (n : Nat) : n ≤ grownCap W n 0 5 := grownCap_ge W n 0 5
/-- []byte(s): bytes that are read. -/
theorem bytes_in (W : World) (t : ByteArray) (h : t.size ≤ 9223372036854775807) : In (Lib.bytesWorld W 5 t) (some ⟨W.heap.size, 0, none⟩) t.size (grownCap W t.size 0 5) (bytesOf t) :=
  ⟨bytes_reads W 5 t h, fun ad he => by injection he with he; subst he; show W.heap.size < _; rw [Lib.bytesWorld_size]; omega, cap_ge W _⟩
theorem keep_bytes {w W : World} (h : Below w.heap.size w W) (t : ByteArray) : Below w.heap.size w (Lib.bytesWorld W 5 t) := bytes_below h h.size 5 t
theorem keep_call {w W w1 : World} (h1 : Below W.heap.size W w1) (h2 : Below w.heap.size w W) : Below w.heap.size w w1 := h2.trans (h1.mono h2.size)
theorem keep_drew (w : World) (n : Nat) : Below w.heap.size w (w.drewN n) := ⟨rfl, rfl, rfl, Nat.le_refl _, fun _ _ => rfl⟩
theorem keep_drew1 (w : World) : Below w.heap.size w w.drew := ⟨rfl, rfl, rfl, Nat.le_refl _, fun _ _ => rfl⟩

/-- A piece of a string, as bytes. -/
theorem bytes_piece (s : ByteArray) (k r : Nat) : bytesOf (s.extract k (k + r)) = ((bytesOf s).drop k).take r := by
  unfold bytesOf
  rw [ByteArray.data_extract, Array.toList_extract, ← List.map_drop, ← List.map_take]
  congr 1
  simp [List.extract_eq_take_drop]
theorem bytes_head (s : ByteArray) (k : Nat) : bytesOf (s.extract 0 k) = (bytesOf s).take k := by
  have := bytes_piece s 0 k
  simpa using this
theorem cut_str (s : ByteArray) (k r : Nat) (h : k + r ≤ s.size) (W : World) : (Instr.slice 9 (.string s) (some (.int .i64 (k : Int))) (some (.int .i64 ((k : Int) + (r : Int)))) none).run Tryd.prog W = .ok (.string (s.extract k (k + r))) W := by
  have h0 : (0 : Int) ≤ (k : Int) := by omega
  have h1 : (k : Int) ≤ (k : Int) + (r : Int) := by omega
  have h2 : (k : Int) + (r : Int) ≤ (s.size : Int) := by omega
  have h3 : (0 : Int) ≤ (k : Int) + (r : Int) := by omega
  have h4 : ((k : Int) + (r : Int)).toNat = k + r := by omega
  simp [Instr.slice, run_underlying Tryd.underlying9, Instr.sliceBounds, run_sliceBound, sliced, h1, h2, h3, h4]
theorem head_str (s : ByteArray) (k r : Nat) (h : k + r ≤ s.size) (W : World) : (Instr.slice 9 (.string s) none (some (.int .i64 ((k : Int) + (r : Int)))) none).run Tryd.prog W = .ok (.string (s.extract 0 (k + r))) W := by
  have := run_slice_string_h (P := Tryd.prog) W 9 s Tryd.underlying9 .i64 ((k : Int) + (r : Int)) (by omega) (by omega)
  rw [this, show ((k : Int) + (r : Int)).toNat = k + r by omega]
end Go.Proofs.YtikoahjnhdnhdaaDoor
