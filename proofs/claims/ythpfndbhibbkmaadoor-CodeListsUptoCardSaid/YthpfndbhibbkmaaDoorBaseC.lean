/- CONTRACTS of scrupleref08.Rows, Most, width and scruplelaw08.pick. No conditions but the arguments' bounds. -/
import Derived.Test.YthpfndbhibbkmaaDoorBaseB
import Derived.Test.YthpfndbhibbkmaaDoorRun
namespace Go.Proofs.YthpfndbhibbkmaaDoor
open Go.ChangeShapes Go.WideShapes Go.ChangeAt Go.RowKit

/-- The reference's rows: operations 1 to 41, six cells each. -/
def rowL (k : Nat) : List Value := [.string (nmT k), .int .i64 (numT k 0), .int .i64 (numT k 1), .int .i64 (numT k 2), .int .i64 (numT k 3), .int .i64 (numT k 4)]
@[irreducible] def rowCells : Array Value := (((List.range 41).map fun k => rowL (k + 1)).flatten).toArray

theorem rows_any (w : World) :
    Calls Tryd.prog 34 #[] w fun e w' => e = .returned (.slice (some ⟨w.heap.size, 0, none⟩) 41 41) ∧ w.alloc (.cells rowCells 24) = w' :=
  calls_of_run Tryd.func34 rfl (by kernel_rfl)

theorem most_any (s : Int) (w : World) (h0 : 0 ≤ s) (h1 : s ≤ 5) :
    Calls Tryd.prog 32 #[.int .i64 s] w fun e w' => e = .returned (.int .i64 (mostT s)) ∧ Below w.heap.size w w' := by
  have hc : s = 0 ∨ s = 1 ∨ s = 2 ∨ s = 3 ∨ s = 4 ∨ s = 5 := by omega
  rcases hc with rfl | rfl | rfl | rfl | rfl | rfl
  all_goals
    go_enter Tryd.func32, Tryd.ntmps32
    go_wp2
    go_ret
    exact ⟨rfl, (Below.refl _ _).alloc (Nat.le_refl _) _⟩

theorem width_any (s : Int) (w : World) (h0 : 0 ≤ s) (h1 : s ≤ 5) :
    Calls Tryd.prog 33 #[.int .i64 s] w fun e w' => e = .returned (.int .i64 (widthT s)) ∧ Below w.heap.size w w' := by
  have hc : s = 0 ∨ s = 1 ∨ s = 2 ∨ s = 3 ∨ s = 4 ∨ s = 5 := by omega
  rcases hc with rfl | rfl | rfl | rfl | rfl | rfl
  all_goals
    go_enter Tryd.func33, Tryd.ntmps33
    go_wp2
    go_ret
    exact ⟨rfl, (Below.refl _ _).alloc (Nat.le_refl _) _⟩

/-- pick: some number from 0 to n - 1. -/
theorem pick_any (c n : Int) (w : World) (hc : -9223372036854775808 ≤ c) (hc' : c ≤ 9223372036854775807) (hn : 1 ≤ n) (hn' : n ≤ 1000000) :
    ∃ k : Int, 0 ≤ k ∧ k < n ∧ Calls Tryd.prog 11 #[.int .i64 c, .int .i64 n] w fun e w' => e = .returned (.int .i64 k) ∧ w = w' := by
  by_cases h : c < 0
  · refine ⟨(-(c + 1)) % n, Int.emod_nonneg _ (by omega), Int.emod_lt_of_pos _ (by omega), ?_⟩
    go_enter Tryd.func11, Tryd.ntmps11
    go_wp2
    go_ret
    refine ⟨?_, rfl⟩
    show Ending.returned (.int .i64 (-((c + 1).tmod n))) = _
    rw [← Int.neg_tmod, Int.tmod_eq_emod_of_nonneg (by omega)]
  · refine ⟨c % n, Int.emod_nonneg _ (by omega), Int.emod_lt_of_pos _ (by omega), ?_⟩
    go_enter Tryd.func11, Tryd.ntmps11
    go_wp2
    go_ret
    exact ⟨rfl, rfl⟩
end Go.Proofs.YthpfndbhibbkmaaDoor
