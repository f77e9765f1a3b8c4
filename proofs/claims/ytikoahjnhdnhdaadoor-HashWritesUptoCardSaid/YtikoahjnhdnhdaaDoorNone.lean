/- A NIL HASH IS ONE OF ZERO VALUES: Write, Sum and 'none'. -/
import Derived.Test.YtikoahjnhdnhdaaDoorBooks
import Derived.Test.YtikoahjnhdnhdaaDoorOpenS
import Derived.Lib.SlBytesConst
namespace Go.Proofs.YtikoahjnhdnhdaaDoor
open Go.ChangeShapes Go.WideShapes Go.ChangeAt Go.RowKit Go.Proofs.YtikoahjnhdnhdaaDoorW.PrintWords Go.Deep
set_option linter.unusedVariables false
set_option linter.unusedSimpArgs false

attribute [local go_sem ↓] loadAt_23 storeAt_23 alloc_23
attribute [local go_sem] run_alloc23

theorem z23_nums : z23 = (nums .u8 (List.replicate 32 0)).toArray := by unfold z23; rfl
theorem z23_lit : z23 = (#[.int .u8 0, .int .u8 0, .int .u8 0, .int .u8 0, .int .u8 0, .int .u8 0, .int .u8 0, .int .u8 0, .int .u8 0, .int .u8 0, .int .u8 0, .int .u8 0, .int .u8 0, .int .u8 0, .int .u8 0, .int .u8 0, .int .u8 0, .int .u8 0, .int .u8 0, .int .u8 0, .int .u8 0, .int .u8 0, .int .u8 0, .int .u8 0, .int .u8 0, .int .u8 0, .int .u8 0, .int .u8 0, .int .u8 0, .int .u8 0, .int .u8 0, .int .u8 0] : Array Value) := by unfold z23; rfl
theorem write_none (A : Option Addr) (n c : Nat) (w : World) : Calls Tryd.prog 14 #[.pointer none, .slice A n c] w fun e w' => e = .returned (.int .i64 0) ∧ w = w' := by
  go_enter Tryd.func14, Tryd.ntmps14
  go_wp2_with fail
  go_ret
  exact ⟨rfl, rfl⟩
set_option maxRecDepth 100000 in
theorem sum_none (w : World) : Calls Tryd.prog 15 #[.pointer none] w fun e w' => e = .returned (.agg z23) ∧ Below w.heap.size w w' := by
  obtain ⟨w1, hst1, V1, g1, hs1⟩ := (Bk.new 23 w z23).store_whole (ty := 23) z23 rfl (by rw [z23_size]; exact size23) (by rw [z23_nums]; exact nums_one .u8 _)
  have hst : (store23 (.pointer (some ⟨w.heap.size, 0, none⟩)) (.agg z23)).run Tryd.prog (w.alloc (.cells z23 23)) = .ok () w1 := hst1
  have q1 : Below w.heap.size w w1 := ((Below.refl _ _).alloc (Nat.le_refl _) (.cells z23 23)).trans (below_of_grown g1 (Nat.le_refl _) (by simp))
  have HV := Lib.hid V1
  clear hst1 V1 g1 hs1
  rw [z23_lit] at HV
  rw [show Value.agg z23 = Value.agg _ from congrArg Value.agg z23_lit] at hst ⊢
  have hsz : (#[.int .u8 0, .int .u8 0, .int .u8 0, .int .u8 0, .int .u8 0, .int .u8 0, .int .u8 0, .int .u8 0, .int .u8 0, .int .u8 0, .int .u8 0, .int .u8 0, .int .u8 0, .int .u8 0, .int .u8 0, .int .u8 0, .int .u8 0, .int .u8 0, .int .u8 0, .int .u8 0, .int .u8 0, .int .u8 0, .int .u8 0, .int .u8 0, .int .u8 0, .int .u8 0, .int .u8 0, .int .u8 0, .int .u8 0, .int .u8 0, .int .u8 0, .int .u8 0] : Array Value).size = 32 := rfl
  go_enter Tryd.func15, Tryd.ntmps15
  go_wp2_with fail
  exact bodyPost_ret (results_cell_row Tryd.results15 _ _ w.heap.size 23 _ (0, 0) _ rfl HV.out Tryd.underlying23 rfl (by rw [hsz]; exact size23)) rfl ⟨rfl, q1⟩
theorem eqz (w : World) : (Op.equalIn 10000 23 (.agg z23) (.agg z23)).run Tryd.prog w = .ok true w := by
  rw [z23_nums]
  exact eq23 _ (by simp) w
set_option maxRecDepth 100000 in
theorem none_any (w : World) : Calls Tryd.prog 16 #[] w fun e w' => e = .returned (.bool true) ∧ Below w.heap.size w w' := by
  have hcb := Lib.run_convert_bytes_const (P := Tryd.prog) w 25 5 #[.int .u8 120] 1 1 Tryd.underlying25 Tryd.underlying5
  go_enter Tryd.func16, Tryd.ntmps16
  go_wp2_with fail
  refine (copy_none _).mono ?_
  rintro e _ ⟨rfl, rfl⟩
  go_wp2_with fail
  refine (write_none _ _ _ _).mono ?_
  rintro e _ ⟨rfl, rfl⟩
  go_wp2_with fail
  refine (sum_none _).mono ?_
  rintro e w1 ⟨rfl, q1⟩
  have q2 : Below w.heap.size w w1 := ((Below.refl _ _).alloc (Nat.le_refl _) _).trans (q1.mono (by simp))
  have hq := eqz w1
  rw [show Value.agg z23 = Value.agg _ from congrArg Value.agg z23_lit] at hq ⊢
  go_wp2_with fail
  go_ret
  exact ⟨by first | rfl | simp, q2⟩
end Go.Proofs.YtikoahjnhdnhdaaDoor
