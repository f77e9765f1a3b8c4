/- CONTRACTS of scrupleref02.turned, hash.right, math/bits.RotateLeft32: a word turned to the right by 1 to 31. -/
import Derived.Test.YtikoahjnhdnhdaaDoorRows
import Derived.Test.YtikoahjnhdnhdaaDoorWWords
import Derived.WalkKit
import Derived.ProofKit
import Derived.OpenShut
import Derived.Outline
import Derived.BigQuiet
import Derived.Deep.QuietTactic
import Derived.RegionTactic
import Derived.WalkLawsBesides
import Derived.BigRegion
import Derived.Laws.Rows
import Derived.StillTailTactics
import Derived.Lib.Hide
import Derived.Laws.BitsAllLaws
namespace Go.Proofs.YtikoahjnhdnhdaaDoor
open Go.ChangeShapes Go.WideShapes Go.ChangeAt Go.RowKit Go.Proofs.YtikoahjnhdnhdaaDoorW.PrintWords
set_option linter.unusedVariables false
set_option linter.unusedSimpArgs false

/-- x turned to the right by n. -/
def rotr (x n : Int) : Int := bits .or .u32 (x / 2 ^ n.toNat) (x * 2 ^ (32 - n).toNat % 4294967296)

theorem bits_or_comm (a b : Int) : bits .or .u32 a b = bits .or .u32 b a := by
  show IntKind.u32.wrap ((BitVec.ofInt 32 a ||| BitVec.ofInt 32 b).toNat : Int) = IntKind.u32.wrap ((BitVec.ofInt 32 b ||| BitVec.ofInt 32 a).toNat : Int)
  rw [BitVec.or_comm]

theorem ret_u32 {a b : Int} (h : a = b) : Ending.returned (.int .u32 a) = .returned (.int .u32 b) := by rw [h]

set_option maxHeartbeats 1000000 in
theorem turned_any (x n : Int) (h1 : 1 ≤ n) (h2 : n ≤ 31) (w : World) : Calls Tryd.prog 22 #[.int .u32 x, .int .i64 n] w fun e w' => e = .returned (.int .u32 (rotr x n)) ∧ ∃ k, w' = w.drewN k := by
  have e0 : (0 : Int) ≤ 32 - n := by omega
  have m1 : min n.toNat 32 = n.toNat := by omega
  have m2 : min (32 - n).toNat 32 = (32 - n).toNat := by omega
  go_enter Tryd.func22, Tryd.ntmps22
  go_wp2_with fail
  go_quiet (fail)
  go_wp2
  go_ret
  refine ⟨ret_u32 ?_, _, rfl⟩
  simp [rotr, m1, m2]

theorem rotl_place : ∀ n : Nat, n < 32 → 1 ≤ n → bits .and .u64 (IntKind.u64.wrap (-(n : Int))) 31 = ((32 - n : Nat) : Int) := by decide +kernel

set_option maxHeartbeats 1000000 in
theorem rotl_any (x : Int) (n : Nat) (h1 : 1 ≤ n) (h2 : n ≤ 31) (w : World) : Calls Tryd.prog 24 #[.int .u32 x, .int .i64 (-(n : Int))] w fun e w' => e = .returned (.int .u32 (rotr x n)) ∧ w = w' := by
  have hp := rotl_place n (by omega) h1
  generalize hm : 32 - n = m at *
  have hn : n = 32 - m := by omega
  have hm1 : m ≤ 31 := by omega
  have hm0 : 1 ≤ m := by omega
  have e1 : ((32 : Int) - m).toNat = n := by omega
  have e2 : IntKind.u64.wrap ((32 : Int) - m) = 32 - m := by rw [show ((32 : Int) - m) = ((32 - m : Nat) : Int) by omega]; simp [IntKind.wrap, IntKind.bits, IntKind.signed]; omega
  have e0 : (0 : Int) ≤ 32 - m := by omega
  have m1 : min n 32 = n := by omega
  have m2 : min m 32 = m := by omega
  have HH : Hid (rotr x (n : Int) = bits .or .u32 (x * 2 ^ m % 4294967296) (x / 2 ^ n)) := by
    show _ = _
    unfold rotr
    rw [bits_or_comm, Int.toNat_natCast, show ((32 : Int) - (n : Int)).toNat = m by omega]
  clear hn hm
  go_enter Tryd.func24, Tryd.ntmps24
  go_wp2_with fail
  go_ret
  exact ⟨ret_u32 (by rw [HH.out]), rfl⟩

set_option maxHeartbeats 1000000 in
theorem right_any (x n : Int) (h1 : 1 ≤ n) (h2 : n ≤ 31) (w : World) : Calls Tryd.prog 23 #[.int .u32 x, .int .i64 n] w fun e w' => e = .returned (.int .u32 (rotr x n)) ∧ w = w' := by
  obtain ⟨m, rfl⟩ := Int.eq_ofNat_of_zero_le (by omega : 0 ≤ n)
  go_enter Tryd.func23, Tryd.ntmps23
  go_wp2_with (go_at_call 24; refine (rotl_any x m (by omega) (by omega) _).mono ?_; rintro e w' ⟨rfl, rfl⟩)
  go_ret
  exact ⟨rfl, rfl⟩
end Go.Proofs.YtikoahjnhdnhdaaDoor
