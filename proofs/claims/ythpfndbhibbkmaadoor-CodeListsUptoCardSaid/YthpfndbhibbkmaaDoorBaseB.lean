/- CONTRACTS of gas.Cost, scrupleref08.Rows, Info, Named, Most, width, scrupleref11.Cost and scruplelaw08.pick. The program's own ones ask that the world hold the operations' table. -/
import Derived.Test.YthpfndbhibbkmaaDoorBaseA
namespace Go.Proofs.YthpfndbhibbkmaaDoor
open Go.ChangeShapes Go.WideShapes Go.ChangeAt Go.RowKit

theorem info_yes' (k : Nat) (w : World) (T : Tabs w) (h1 : 1 ≤ k) (h2 : k ≤ 41) :
    Calls Tryd.prog 12 #[.int .i64 k] w fun e w' => e = .returned (.tuple #[.agg #[.string (nmT k), .int .i64 (numT k 0), .int .i64 (numT k 1), .int .i64 (numT k 2), .int .i64 (numT k 3), .int .i64 (numT k 4)], .bool true]) ∧ Below w.heap.size w w' := info_yes k w T h1 h2
theorem info_no' (k : Int) (w : World) (h : k < 1 ∨ 41 < k) :
    Calls Tryd.prog 12 #[.int .i64 k] w fun e w' => e = .returned (.tuple #[.agg #[.string ⟨#[]⟩, .int .i64 0, .int .i64 0, .int .i64 0, .int .i64 0, .int .i64 0], .bool false]) ∧ Below w.heap.size w w' := info_no k w h

theorem rate_012 : ∀ k, k < 42 → numT k 4 = 0 ∨ numT k 4 = 1 ∨ numT k 4 = 2 := by decide +kernel
def costT (k : Nat) (n : Int) : Int := numT k 3 + numT k 4 * n

theorem cost_noop (k n : Int) (w : World) (h : k < 1 ∨ 41 < k) :
    Calls Tryd.prog 14 #[.int .i64 k, .int .i64 n] w fun e w' => e = .returned (.tuple #[.int .i64 0, .int .i64 111]) ∧ Below w.heap.size w w' := by
  go_enter Tryd.func14, Tryd.ntmps14
  go_wp2_with fail
  refine (info_no' k _ h).mono ?_
  rintro e w1 ⟨rfl, hb⟩
  go_wp2_with fail
  go_ret2
  exact ⟨rfl, hb.alloc hb.size _⟩

theorem cost_arg (k : Nat) (n : Int) (w : World) (T : Tabs w) (h1 : 1 ≤ k) (h2 : k ≤ 41) (h : n < 0 ∨ 1048576 < n) :
    Calls Tryd.prog 14 #[.int .i64 k, .int .i64 n] w fun e w' => e = .returned (.tuple #[.int .i64 0, .int .i64 2]) ∧ Below w.heap.size w w' := by
  rcases h with h | h
  all_goals
    go_enter Tryd.func14, Tryd.ntmps14
    go_wp2_with fail
    refine (info_yes' k _ T h1 h2).mono ?_
    rintro e w1 ⟨rfl, hb⟩
    go_wp2_with fail
    go_ret2
    exact ⟨rfl, hb.alloc hb.size _⟩

theorem cost_ok (k : Nat) (n : Int) (w : World) (T : Tabs w) (h1 : 1 ≤ k) (h2 : k ≤ 41) (hn : 0 ≤ n) (hm : n ≤ 1048576) :
    Calls Tryd.prog 14 #[.int .i64 k, .int .i64 n] w fun e w' => e = .returned (.tuple #[.int .i64 (costT k n), .int .i64 0]) ∧ Below w.heap.size w w' := by
  have hr := rate_012 k (by omega)
  have hb3 := numT_bounds k (by omega) 3 (by omega)
  have hi := info_yes' k w T h1 h2
  unfold costT
  generalize numT k 4 = r at *
  generalize numT k 3 = b at *
  clear T
  rcases hr with rfl | rfl | rfl
  all_goals
    go_enter Tryd.func14, Tryd.ntmps14
    go_wp2_with fail
    refine hi.mono ?_
    rintro e w1 ⟨rfl, hb⟩
    clear hi
    go_wp2_with fail
    go_ret2
    exact ⟨by simp, hb.alloc hb.size _⟩
end Go.Proofs.YthpfndbhibbkmaaDoor
