/- CONTRACTS of the gas meter's methods Used, Left, Spent and Charge, each case under its conditions on the meter's cells. -/
import Derived.Test.YthpfndbhibbkmaaRows
import Derived.WalkKit
import Derived.ProofKit
import Derived.OpenShut
import Derived.Outline
import Derived.BigQuiet
import Derived.Deep.QuietTactic
import Derived.RegionTactic
import Derived.WalkLawsBesides
import Derived.Lib.Builder
import Derived.Lib.Hide
namespace Go.Proofs.Ythpfndbhibbkmaa.gasAdds
open Go.ChangeShapes Go.WideShapes Go.ChangeAt Go.RowKit

theorem used_any (b : Nat) (lim left : Int) (w : World) (h0 : 0 ≤ left) (h1 : left ≤ lim) (h2 : lim ≤ 1000000) (c0 : w.cell? ⟨b, 0, none⟩ = some (.int .i64 lim)) (c1 : w.cell? ⟨b, 1, none⟩ = some (.int .i64 left)) :
    Calls Try.prog 10 #[.pointer (some ⟨b, 0, none⟩)] w fun e w' => e = .returned (.int .i64 (lim - left)) ∧ w.drew = w' := by
  go_enter Try.func10, Try.ntmps10
  go_wp2
  go_region
  all_goals go_wp2
  all_goals go_ret
  all_goals exact ⟨rfl, rfl⟩

theorem left_any (b : Nat) (left : Int) (w : World) (c1 : w.cell? ⟨b, 1, none⟩ = some (.int .i64 left)) :
    Calls Try.prog 9 #[.pointer (some ⟨b, 0, none⟩)] w fun e w' => e = .returned (.int .i64 left) ∧ w = w' := by
  go_enter Try.func9, Try.ntmps9
  go_wp2
  go_ret
  exact ⟨rfl, rfl⟩

theorem spent_any (b : Nat) (s : Bool) (w : World) (c1 : w.cell? ⟨b, 2, none⟩ = some (.bool s)) :
    Calls Try.prog 8 #[.pointer (some ⟨b, 0, none⟩)] w fun e w' => e = .returned (.bool s) ∧ w = w' := by
  go_enter Try.func8, Try.ntmps8
  go_wp2
  go_ret
  exact ⟨rfl, rfl⟩

theorem charge_fits (b : Nat) (n left : Int) (w : World) (hn : 0 ≤ n) (hl : n ≤ left) (hm : left ≤ 1000000) (c1 : w.cell? ⟨b, 1, none⟩ = some (.int .i64 left)) (c2 : w.cell? ⟨b, 2, none⟩ = some (.bool false)) (f1 : w.frozen? ⟨b, 1, none⟩ = false) :
    Calls Try.prog 7 #[.pointer (some ⟨b, 0, none⟩), .int .i64 n] w fun e w' => e = .returned (.bool true) ∧ w.setCell ⟨b, 1, none⟩ (.int .i64 (left - n)) = w' := by
  go_enter Try.func7, Try.ntmps7
  go_wp2
  go_ret
  exact ⟨rfl, rfl⟩

theorem charge_over (b : Nat) (n left : Int) (w : World) (hn : 0 ≤ n) (hl : left < n) (c1 : w.cell? ⟨b, 1, none⟩ = some (.int .i64 left)) (c2 : w.cell? ⟨b, 2, none⟩ = some (.bool false)) (f1 : w.frozen? ⟨b, 1, none⟩ = false) (f2 : w.frozen? ⟨b, 2, none⟩ = false) :
    Calls Try.prog 7 #[.pointer (some ⟨b, 0, none⟩), .int .i64 n] w fun e w' => e = .returned (.bool false) ∧ (w.setCell ⟨b, 1, none⟩ (.int .i64 0)).setCell ⟨b, 2, none⟩ (.bool true) = w' := by
  go_enter Try.func7, Try.ntmps7
  go_wp2
  go_ret
  exact ⟨rfl, rfl⟩

theorem charge_spent (b : Nat) (n : Int) (w : World) (hn : 0 ≤ n) (c2 : w.cell? ⟨b, 2, none⟩ = some (.bool true)) :
    Calls Try.prog 7 #[.pointer (some ⟨b, 0, none⟩), .int .i64 n] w fun e w' => e = .returned (.bool false) ∧ w = w' := by
  go_enter Try.func7, Try.ntmps7
  go_wp2
  go_ret
  exact ⟨rfl, rfl⟩
end Go.Proofs.Ythpfndbhibbkmaa.gasAdds
