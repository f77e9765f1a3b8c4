/- THE WALK of 'scruplelaw11.GasCosts': it returns true for every operation and weight, over a world that holds the operations' table. -/
import Derived.Test.YthpfndbhibbkmaaDoorBaseD
namespace Go.Proofs.YthpfndbhibbkmaaDoor.gasCosts
open Go.ChangeShapes Go.WideShapes Go.ChangeAt Go.RowKit

theorem cost_first (w : World) (T : Tabs w) :
    Calls Tryd.prog 14 #[.int .i64 10, .int .i64 7] w fun e w' => e = .returned (.tuple #[.int .i64 9, .int .i64 0]) ∧ Below w.heap.size w w' := cost_ok 10 7 w T (by omega) (by omega) (by omega) (by omega)

theorem walk (a0 : Int) (_w0 : (Lit.int .i64 a0).wf = true) (a1 : Int) (_w1 : (Lit.int .i64 a1).wf = true) {w : World} (T : Tabs w) :
    Calls Tryd.prog 4 #[.int .i64 a0, .int .i64 a1] w fun e w' => e = .returned (.bool true) ∧ Below w.heap.size w w' := by
  by_cases h1 : a0 < 1 ∨ 41 < a0
  · go_enter Tryd.func4, Tryd.ntmps4
    go_wp2_with fail
    refine (cost_first _ T).mono ?_
    rintro e w1 ⟨rfl, b1⟩
    go_wp2_with fail
    refine (cost_noop _ _ _ h1).mono ?_
    rintro e w2 ⟨rfl, b2⟩
    go_wp2_with fail
    refine (rcost_noop _ _ _ h1).mono ?_
    rintro e w3 ⟨rfl, b3⟩
    go_wp2_with fail
    go_ret
    exact ⟨rfl, (b1.trans (b2.mono b1.size)).trans (b3.mono (Nat.le_trans b1.size b2.size))⟩
  · obtain ⟨k, rfl⟩ : ∃ k : Nat, a0 = k := ⟨a0.toNat, by omega⟩
    have k1 : 1 ≤ k := by omega
    have k2 : k ≤ 41 := by omega
    clear h1
    by_cases h2 : a1 < 0 ∨ 1048576 < a1
    · go_enter Tryd.func4, Tryd.ntmps4
      go_wp2_with fail
      refine (cost_first _ T).mono ?_
      rintro e w1 ⟨rfl, b1⟩
      go_wp2_with fail
      refine (cost_arg _ _ _ (T.below b1) k1 k2 h2).mono ?_
      rintro e w2 ⟨rfl, b2⟩
      go_wp2_with fail
      refine (rcost_arg _ _ _ k1 k2 h2).mono ?_
      rintro e w3 ⟨rfl, b3⟩
      go_wp2_with fail
      go_ret
      exact ⟨rfl, (b1.trans (b2.mono b1.size)).trans (b3.mono (Nat.le_trans b1.size b2.size))⟩
    · go_enter Tryd.func4, Tryd.ntmps4
      go_wp2_with fail
      refine (cost_first _ T).mono ?_
      rintro e w1 ⟨rfl, b1⟩
      go_wp2_with fail
      refine (cost_ok _ _ _ (T.below b1) k1 k2 (by omega) (by omega)).mono ?_
      rintro e w2 ⟨rfl, b2⟩
      go_wp2_with fail
      refine (rcost_ok _ _ _ k1 k2 (by omega) (by omega)).mono ?_
      rintro e w3 ⟨rfl, b3⟩
      go_wp2_with fail
      go_ret
      exact ⟨by simp, (b1.trans (b2.mono b1.size)).trans (b3.mono (Nat.le_trans b1.size b2.size))⟩
end Go.Proofs.YthpfndbhibbkmaaDoor.gasCosts
