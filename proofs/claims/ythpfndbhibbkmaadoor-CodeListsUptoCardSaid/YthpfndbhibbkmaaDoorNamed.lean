/- CONTRACTS of code.Named and scrupleref08.Named, the operation of a name: 'opOf'. The program's own asks that the world hold the operations' table. -/
import Derived.Test.YthpfndbhibbkmaaDoorBaseD
namespace Go.Proofs.YthpfndbhibbkmaaDoor
open Go.ChangeShapes Go.WideShapes Go.ChangeAt Go.RowKit

theorem cells9 : Tryd.prog.cellsOf 9 = 1 := by kernel_rfl
theorem size9 : (Tryd.prog.info? 9).map (·.size) = some 1 := by kernel_rfl
theorem run_index_names (cs : Array Value) (i : Nat) (v : Value) (hi : i < 42) (hv : cs[i]? = some v) (w : World) :
    (Instr.index 59 (.agg cs) (.int .i64 (i : Int))).run Tryd.prog w = .ok v w := by
  obtain ⟨j, hj, hs⟩ := Option.map_eq_some_iff.1 size9
  have hc : ¬ 42 ≤ i := by omega
  simp [Instr.index, run_underlying Tryd.underlying59, asIntOf, hc, part, Sem.run_bind, sizeOf, typeInfo, hj, hs, hv]

theorem list_ne {a b : ByteArray} (h : a ≠ b) : (a.toList == b.toList) = false := by
  rw [beq_eq_false_iff_ne]
  intro he
  rw [ByteArray.toList_eq, ByteArray.toList_eq] at he
  exact h (bytes_inj he)
/-- The first place from i on at which the name stands. -/
theorem opOf_at {s : ByteArray} {k : Nat} (hk : k < 42) (he : nmT k = s) (hn : ∀ j, j < k → nmT j ≠ s) : opOf s = k := by
  unfold opOf
  have : (List.range 42).find? (fun k => decide (nmT k = s)) = some k := by
    rw [List.find?_range_eq_some]
    refine ⟨by simpa using he, by simpa using hk, fun j hj => ?_⟩
    simpa using hn j hj
  rw [this]
  rfl
theorem opOf_none {s : ByteArray} (hn : ∀ j, j < 42 → nmT j ≠ s) : opOf s = 0 := by
  unfold opOf
  have : (List.range 42).find? (fun k => decide (nmT k = s)) = none := by
    rw [List.find?_eq_none]
    intro j hj
    simpa using hn j (by simpa using hj)
  rw [this]
  rfl

attribute [local irreducible] nmCells numCells nmL numL

set_option maxHeartbeats 400000 in
theorem named_any (s : ByteArray) (w : World) (T : Tabs w) :
    Calls Tryd.prog 13 #[.string s] w fun e w' => e = .returned (.tuple #[.int .i64 (opOf s), .bool (decide (0 < opOf s))]) ∧ w = w' := by
  obtain ⟨t1, f1, g1⟩ := T.nm
  have hix := fun (i : Nat) (hi : i < 42) => run_index_names nmCells i _ hi (nmCells_at i hi)
  have HX : Hid (∀ i : Nat, i < 42 → ∀ w : World, (Instr.index 59 (.agg nmCells) (.int .i64 (i : Int))).run Tryd.prog w = .ok (.string (nmT i)) w) := hix
  clear hix
  have hsz : (Tryd.prog.info? 59).map (·.size) = some nmCells.size := by kernel_rfl
  go_enter Tryd.func13, Tryd.ntmps13
  go_wp2_with (refine wpList_load_row rfl 59 _ rfl 1 rfl t1 _ f1 _ g1 Tryd.underlying59 rfl hsz ?_)
  have HN : Hid (∀ j, j < 0 → nmT j ≠ s) := fun j h => absurd h (by omega)
  go_loop [7] (fun i => ∃ k : Nat, k ≤ 42 ∧ i = .int .i64 k ∧ Hid (∀ j, j < k → nmT j ≠ s)) (fun i => 42 - (intOf i).toNat)
  case atStart => exact ⟨0, by omega, rfl, HN⟩
  case round =>
    clear HN
    obtain ⟨k, hk, rfl, HN⟩ := hrel
    by_cases hlt : k < 42
    · have hi := HX.out k hlt
      by_cases he : nmT k = s
      · have ho : Hid (opOf s = k) := opOf_at hlt he HN.out
        subst he
        go_wp2
        go_ret2
        rw [ho.out]
        exact ⟨by simp, rfl⟩
      · have hq := list_ne he
        have HN' : Hid (∀ j, j < k + 1 → nmT j ≠ s) := by
          intro j hj
          by_cases h : j = k
          · subst h; exact he
          · exact HN.out j (by omega)
        clear he
        go_wp2
        go_round
        case rel => exact ⟨k + 1, by omega, by go_num, HN'⟩
        case measure => simp [intOf]; omega
    · have ho : Hid (opOf s = 0) := opOf_none (fun j hj => HN.out j (by omega))
      go_wp2
      go_ret2
      rw [ho.out]
      exact ⟨by simp, rfl⟩

theorem nm_zero : ∀ k, k < 41 → nmT 0 ≠ nmT (k + 1) := by decide +kernel
theorem rows_nm (w : World) (k : Nat) (hk : k < 41) : (w.alloc (.cells rowCells 24)).cell? ⟨w.heap.size, k * 6, none⟩ = some (.string (nmT (k + 1))) := (rowCells_at w k hk).1

set_option maxHeartbeats 400000 in
theorem rnamed_any (s : ByteArray) (w : World) :
    Calls Tryd.prog 22 #[.string s] w fun e w' => e = .returned (.tuple #[.int .i64 (opOf s), .bool (decide (0 < opOf s))]) ∧ Below w.heap.size w w' := by
  go_enter Tryd.func22, Tryd.ntmps22
  go_wp2_with fail
  refine (rows_any _).mono ?_
  rintro e w1 ⟨rfl, hw1⟩
  have HC : Hid (∀ k, k < 41 → w1.cell? ⟨w.heap.size, k * 6, none⟩ = some (.string (nmT (k + 1)))) := by
    intro k hk
    rw [← hw1]
    exact rows_nm w k hk
  have hb : Below w.heap.size w w1 := by rw [← hw1]; exact (Below.refl _ _).alloc (Nat.le_refl _) _
  clear hw1
  have HN : Hid (∀ j, 1 ≤ j → j < 0 + 1 → nmT j ≠ s) := fun j h h' => absurd h (by omega)
  go_wp2
  go_loop [5] (fun i => ∃ k : Nat, k ≤ 41 ∧ i = .int .i64 k ∧ Hid (∀ j, 1 ≤ j → j < k + 1 → nmT j ≠ s)) (fun i => 41 - (intOf i).toNat)
  case atStart => exact ⟨0, by omega, rfl, HN⟩
  case round =>
    clear HN
    obtain ⟨k, hk, rfl, HN⟩ := hrel
    by_cases hlt : k < 41
    · have hi := HC.out k hlt
      by_cases he : nmT (k + 1) = s
      · have ho : Hid (opOf s = k + 1) := opOf_at (by omega) he (fun j hj => by
          by_cases h : j = 0
          · subst h
            rw [← he]
            exact nm_zero k hlt
          · exact HN.out j (by omega) hj)
        subst he
        go_wp2
        go_ret2
        rw [ho.out]
        exact ⟨by simp, hb⟩
      · have hq := list_ne he
        have HN' : Hid (∀ j, 1 ≤ j → j < k + 1 + 1 → nmT j ≠ s) := by
          intro j h1 hj
          by_cases h : j = k + 1
          · subst h; exact he
          · exact HN.out j h1 (by omega)
        clear he
        go_wp2
        go_round
        case rel => exact ⟨k + 1, by omega, by go_num, HN'⟩
        case measure => simp [intOf]; omega
    · have ho : Hid (opOf s = 0) := by
        by_cases h0 : nmT 0 = s
        · exact opOf_at (by omega) h0 (fun j hj => absurd hj (by omega))
        · exact opOf_none (fun j hj => by
            by_cases h : j = 0
            · subst h; exact h0
            · exact HN.out j (by omega) (by omega))
      go_wp2
      go_ret2
      rw [ho.out]
      exact ⟨by simp, hb⟩
end Go.Proofs.YthpfndbhibbkmaaDoor
