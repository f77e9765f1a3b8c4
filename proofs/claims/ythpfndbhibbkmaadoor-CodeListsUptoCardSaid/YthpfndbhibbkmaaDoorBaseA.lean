/- CONTRACTS of code.Info, code.Named, code.bound, gas.Cost, each over a world that holds the operations' table. -/
import Derived.Test.YthpfndbhibbkmaaDoorTab
import Derived.ProofKit
import Derived.OpenShut
import Derived.Outline
import Derived.BigQuiet
import Derived.RegionTactic
import Derived.WalkLawsBesides
import Derived.BigRegion
import Derived.Laws.Rows
namespace Go.Proofs.YthpfndbhibbkmaaDoor
open Go.ChangeShapes Go.WideShapes Go.ChangeAt Go.RowKit

def noInfo : Value := .agg #[.string ⟨#[]⟩, .int .i64 0, .int .i64 0, .int .i64 0, .int .i64 0, .int .i64 0]

theorem info_no (k : Int) (w : World) (h : k < 1 ∨ 41 < k) :
    Calls Tryd.prog 12 #[.int .i64 k] w fun e w' => e = .returned (.tuple #[noInfo, .bool false]) ∧ Below w.heap.size w w' := by
  have hg : (decide (k < 1) || decide (41 < k)) = true := by simpa using h
  rcases h with h | h
  · go_enter Tryd.func12, Tryd.ntmps12
    go_wp2
    exact bodyPost_ret (v := .tuple #[noInfo, .bool false]) (by unfold noInfo; simp [results, Tryd.results12, go_sem]) rfl ⟨rfl, (Below.refl _ _).alloc (Nat.le_refl _) _⟩
  · go_enter Tryd.func12, Tryd.ntmps12
    go_wp2
    exact bodyPost_ret (v := .tuple #[noInfo, .bool false]) (by unfold noInfo; simp [results, Tryd.results12, go_sem]) rfl ⟨rfl, (Below.refl _ _).alloc (Nat.le_refl _) _⟩

set_option maxHeartbeats 400000 in
theorem info_cells (k : Nat) (a b c d x : Int) (s : ByteArray) (w : World) (hs0 : 0 < w.heap.size) (hs1 : 1 < w.heap.size) (h1 : 1 ≤ k) (h2 : k ≤ 41) (c0 : w.cell? ⟨0, k * 5, none⟩ = some (.int .i64 a)) (c1 : w.cell? ⟨0, k * 5 + 1, none⟩ = some (.int .i64 b)) (c2 : w.cell? ⟨0, k * 5 + 2, none⟩ = some (.int .i64 c)) (c3 : w.cell? ⟨0, k * 5 + 3, none⟩ = some (.int .i64 d)) (c4 : w.cell? ⟨0, k * 5 + 4, none⟩ = some (.int .i64 x))
    (c5 : w.cell? ⟨1, k, none⟩ = some (.string s)) :
    Calls Tryd.prog 12 #[.int .i64 k] w fun e w' => e = .returned (.tuple #[.agg #[.string s, .int .i64 a, .int .i64 b, .int .i64 c, .int .i64 d, .int .i64 x], .bool true]) ∧ Below w.heap.size w w' := by
  go_enter Tryd.func12, Tryd.ntmps12
  go_wp2
  go_region
  go_wp2
  exact bodyPost_ret (v := .tuple #[.agg #[.string s, .int .i64 a, .int .i64 b, .int .i64 c, .int .i64 d, .int .i64 x], .bool true]) (by simp [results, Tryd.results12, go_sem]) rfl ⟨rfl, (((Below.refl _ _).alloc (Nat.le_refl _) _).alloc (by simp) _).drew⟩

theorem info_yes (k : Nat) (w : World) (T : Tabs w) (h1 : 1 ≤ k) (h2 : k ≤ 41) :
    Calls Tryd.prog 12 #[.int .i64 k] w fun e w' => e = .returned (.tuple #[infoV k, .bool true]) ∧ Below w.heap.size w w' := by
  have hs := T.size
  exact info_cells k _ _ _ _ _ _ w (by omega) hs h1 h2 (T.numAt k 0 (by omega) (by omega)) (T.numAt k 1 (by omega) (by omega)) (T.numAt k 2 (by omega) (by omega)) (T.numAt k 3 (by omega) (by omega)) (T.numAt k 4 (by omega) (by omega)) (T.nmAt k (by omega))

/-- bound: by the operand's sort. -/
def mostT (s : Int) : Int := if s = 1 then 99 else if s = 2 then 31 else if s = 3 then 3999 else if s = 4 then 23 else if s = 5 then 40 else 0
def widthT (s : Int) : Int := if s = 1 then 1 else if s = 2 then 1 else if s = 3 then 2 else if s = 4 then 1 else if s = 5 then 1 else 0
theorem bound_any (s : Int) (w : World) (h0 : 0 ≤ s) (h1 : s ≤ 5) :
    Calls Tryd.prog 35 #[.int .i64 s] w fun e w' => e = .returned (.tuple #[.int .i64 (mostT s), .int .i64 (widthT s)]) ∧ w = w' := by
  have hc : s = 0 ∨ s = 1 ∨ s = 2 ∨ s = 3 ∨ s = 4 ∨ s = 5 := by omega
  rcases hc with rfl | rfl | rfl | rfl | rfl | rfl
  all_goals
    go_enter Tryd.func35, Tryd.ntmps35
    go_wp2
    go_ret2
    exact ⟨rfl, rfl⟩
end Go.Proofs.YthpfndbhibbkmaaDoor
