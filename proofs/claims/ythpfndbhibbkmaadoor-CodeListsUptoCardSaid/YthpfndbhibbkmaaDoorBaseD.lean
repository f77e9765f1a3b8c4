/- CONTRACTS of scrupleref08.Info, scrupleref11.Cost, code.Named, scrupleref08.Named. The program's own ones ask that the world hold the operations' table. -/
import Derived.Test.YthpfndbhibbkmaaDoorBaseC
import Derived.Lib.Hide
namespace Go.Proofs.YthpfndbhibbkmaaDoor
open Go.ChangeShapes Go.WideShapes Go.ChangeAt Go.RowKit

theorem rowCells_at (w : World) (k : Nat) (hk : k < 41) :
    (w.alloc (.cells rowCells 24)).cell? ⟨w.heap.size, k * 6, none⟩ = some (.string (nmT (k + 1))) ∧ ∀ j, j < 5 → (w.alloc (.cells rowCells 24)).cell? ⟨w.heap.size, k * 6 + (j + 1), none⟩ = some (.int .i64 (numT (k + 1) j)) := by
  have hb : (w.alloc (.cells rowCells 24)).heap[w.heap.size]? = some (.cells rowCells 24 (0, 0)) := heap_alloc_new w _
  have hlen : ∀ k, (rowL k).length = 6 := fun _ => rfl
  have hat : ∀ j, j < 6 → rowCells[k * 6 + j]? = (rowL (k + 1))[j]? := by
    intro j hj
    unfold rowCells
    rw [List.getElem?_toArray]
    have : ∀ (n m : Nat) (k : Nat), k < n → (((List.range' m n).map fun k => rowL (k + 1)).flatten)[k * 6 + j]? = (rowL (m + k + 1))[j]? := by
      intro n
      induction n with
      | zero => intro m k h; omega
      | succ n ih =>
        intro m k h
        rw [List.range'_succ, List.map_cons, List.flatten_cons]
        cases k with
        | zero => rw [List.getElem?_append_left (by rw [hlen]; omega)]; simp
        | succ k =>
          rw [List.getElem?_append_right (by rw [hlen]; omega), hlen]
          have e1 : (k + 1) * 6 + j - 6 = k * 6 + j := by omega
          have e2 : m + (k + 1) + 1 = (m + 1) + k + 1 := by omega
          rw [e1, e2]
          exact ih (m + 1) k (by omega)
    have h := this 41 0 k hk
    rw [List.range_eq_range']
    rw [h]
    simp
  constructor
  · rw [cell_of_row _ _ _ _ _ _ hb]
    have := hat 0 (by omega)
    simpa [rowL] using this
  · intro j hj
    rw [cell_of_row _ _ _ _ _ _ hb]
    have := hat (j + 1) (by omega)
    rw [this]
    have hc : j = 0 ∨ j = 1 ∨ j = 2 ∨ j = 3 ∨ j = 4 := by omega
    rcases hc with rfl | rfl | rfl | rfl | rfl <;> simp only [rowL, Nat.zero_add, Nat.reduceAdd, List.getElem?_cons_succ, List.getElem?_cons_zero]

theorem rinfo_no (k : Int) (w : World) (h : k < 1 ∨ 41 < k) :
    Calls Tryd.prog 21 #[.int .i64 k] w fun e w' => e = .returned (.tuple #[.agg #[.string ⟨#[]⟩, .int .i64 0, .int .i64 0, .int .i64 0, .int .i64 0, .int .i64 0], .bool false]) ∧ Below w.heap.size w w' := by
  rcases h with h | h
  all_goals
    go_enter Tryd.func21, Tryd.ntmps21
    go_wp2_with (go_at_call 34; refine (rows_any _).mono ?_; rintro e w' ⟨rfl, rfl⟩)
    exact bodyPost_ret (v := .tuple #[.agg #[.string ⟨#[]⟩, .int .i64 0, .int .i64 0, .int .i64 0, .int .i64 0, .int .i64 0], .bool false]) (by simp [results, Tryd.results21, go_sem]) rfl ⟨rfl, ((Below.refl _ _).alloc (Nat.le_refl _) _).alloc (by simp) _⟩

theorem rinfo_cells (k : Nat) (a b c d x : Int) (s : ByteArray) (w : World) (h2 : k < 41)
    (c5 : rowCells[k * 6]? = some (.string s)) (c0 : rowCells[k * 6 + 1]? = some (.int .i64 a)) (c1 : rowCells[k * 6 + 2]? = some (.int .i64 b))
    (c2 : rowCells[k * 6 + 3]? = some (.int .i64 c)) (c3 : rowCells[k * 6 + 4]? = some (.int .i64 d)) (c4 : rowCells[k * 6 + 5]? = some (.int .i64 x)) :
    Calls Tryd.prog 21 #[.int .i64 (k + 1)] w fun e w' => e = .returned (.tuple #[.agg #[.string s, .int .i64 a, .int .i64 b, .int .i64 c, .int .i64 d, .int .i64 x], .bool true]) ∧ Below w.heap.size w w' := by
  go_enter Tryd.func21, Tryd.ntmps21
  go_wp2_with (go_at_call 34; refine (rows_any _).mono ?_; rintro e w' ⟨rfl, rfl⟩)
  exact bodyPost_ret (v := .tuple #[.agg #[.string s, .int .i64 a, .int .i64 b, .int .i64 c, .int .i64 d, .int .i64 x], .bool true]) (by simp [results, Tryd.results21, go_sem]) rfl ⟨rfl, ((Below.refl _ _).alloc (Nat.le_refl _) _).alloc (by simp) _⟩

theorem rinfo_yes (k : Nat) (w : World) (h1 : 1 ≤ k) (h2 : k ≤ 41) :
    Calls Tryd.prog 21 #[.int .i64 k] w fun e w' => e = .returned (.tuple #[.agg #[.string (nmT k), .int .i64 (numT k 0), .int .i64 (numT k 1), .int .i64 (numT k 2), .int .i64 (numT k 3), .int .i64 (numT k 4)], .bool true]) ∧ Below w.heap.size w w' := by
  obtain ⟨m, rfl⟩ : ∃ m, k = m + 1 := ⟨k - 1, by omega⟩
  have h := rowCells_at w m (by omega)
  have hb : (w.alloc (.cells rowCells 24)).heap[w.heap.size]? = some (.cells rowCells 24 (0, 0)) := heap_alloc_new w _
  have g := h.2
  have h0 := h.1
  simp only [cell_of_row _ _ _ _ _ _ hb] at g h0
  have e : ((m + 1 : Nat) : Int) = (m : Int) + 1 := by omega
  rw [e]
  exact rinfo_cells m _ _ _ _ _ _ w (by omega) h0 (g 0 (by omega)) (g 1 (by omega)) (g 2 (by omega)) (g 3 (by omega)) (g 4 (by omega))

theorem rcost_noop (k n : Int) (w : World) (h : k < 1 ∨ 41 < k) :
    Calls Tryd.prog 15 #[.int .i64 k, .int .i64 n] w fun e w' => e = .returned (.tuple #[.int .i64 0, .int .i64 111]) ∧ Below w.heap.size w w' := by
  go_enter Tryd.func15, Tryd.ntmps15
  go_wp2_with fail
  refine (rinfo_no k _ h).mono ?_
  rintro e w1 ⟨rfl, hb⟩
  go_wp2_with fail
  go_ret2
  exact ⟨rfl, hb.alloc hb.size _⟩

theorem rcost_arg (k : Nat) (n : Int) (w : World) (h1 : 1 ≤ k) (h2 : k ≤ 41) (h : n < 0 ∨ 1048576 < n) :
    Calls Tryd.prog 15 #[.int .i64 k, .int .i64 n] w fun e w' => e = .returned (.tuple #[.int .i64 0, .int .i64 2]) ∧ Below w.heap.size w w' := by
  rcases h with h | h
  all_goals
    go_enter Tryd.func15, Tryd.ntmps15
    go_wp2_with fail
    refine (rinfo_yes k _ h1 h2).mono ?_
    rintro e w1 ⟨rfl, hb⟩
    go_wp2_with fail
    go_ret2
    exact ⟨rfl, hb.alloc hb.size _⟩

theorem rcost_ok (k : Nat) (n : Int) (w : World) (h1 : 1 ≤ k) (h2 : k ≤ 41) (hn : 0 ≤ n) (hm : n ≤ 1048576) :
    Calls Tryd.prog 15 #[.int .i64 k, .int .i64 n] w fun e w' => e = .returned (.tuple #[.int .i64 (costT k n), .int .i64 0]) ∧ Below w.heap.size w w' := by
  have hr := rate_012 k (by omega)
  have hb3 := numT_bounds k (by omega) 3 (by omega)
  have hi := rinfo_yes k w h1 h2
  unfold costT
  generalize numT k 4 = r at *
  generalize numT k 3 = b at *
  rcases hr with rfl | rfl | rfl
  all_goals
    go_enter Tryd.func15, Tryd.ntmps15
    go_wp2_with fail
    refine hi.mono ?_
    rintro e w1 ⟨rfl, hb⟩
    clear hi
    go_wp2_with fail
    go_ret2
    exact ⟨by simp, hb.alloc hb.size _⟩
end Go.Proofs.YthpfndbhibbkmaaDoor
