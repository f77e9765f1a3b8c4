/- CONTRACTS of hash.New, (*hash.Hash).Copy and scrupleref02.words. -/
import Derived.Test.YtikoahjnhdnhdaaDoorWrite
namespace Go.Proofs.YtikoahjnhdnhdaaDoor
open Go.ChangeShapes Go.WideShapes Go.ChangeAt Go.RowKit Go.Proofs.YtikoahjnhdnhdaaDoorW.PrintWords Go.Deep
set_option linter.unusedVariables false
set_option linter.unusedSimpArgs false

def build50 (l : Array (Nat × Value)) : Sem Value := Instr.build 50 l
theorem build_50 (l : Array (Nat × Value)) : Instr.build 50 l = build50 l := rfl
theorem run_build50 (w : World) : (build50 #[(0, Value.int .u32 1116352408), (1, Value.int .u32 1899447441), (2, Value.int .u32 3049323471), (3, Value.int .u32 3921009573), (4, Value.int .u32 961987163), (5, Value.int .u32 1508970993), (6, Value.int .u32 2453635748), (7, Value.int .u32 2870763221), (8, Value.int .u32 3624381080), (9, Value.int .u32 310598401), (10, Value.int .u32 607225278), (11, Value.int .u32 1426881987), (12, Value.int .u32 1925078388), (13, Value.int .u32 2162078206), (14, Value.int .u32 2614888103), (15, Value.int .u32 3248222580), (16, Value.int .u32 3835390401), (17, Value.int .u32 4022224774), (18, Value.int .u32 264347078), (19, Value.int .u32 604807628), (20, Value.int .u32 770255983), (21, Value.int .u32 1249150122), (22, Value.int .u32 1555081692), (23, Value.int .u32 1996064986), (24, Value.int .u32 2554220882), (25, Value.int .u32 2821834349), (26, Value.int .u32 2952996808), (27, Value.int .u32 3210313671), (28, Value.int .u32 3336571891), (29, Value.int .u32 3584528711), (30, Value.int .u32 113926993), (31, Value.int .u32 338241895), (32, Value.int .u32 666307205), (33, Value.int .u32 773529912), (34, Value.int .u32 1294757372), (35, Value.int .u32 1396182291), (36, Value.int .u32 1695183700), (37, Value.int .u32 1986661051), (38, Value.int .u32 2177026350), (39, Value.int .u32 2456956037), (40, Value.int .u32 2730485921), (41, Value.int .u32 2820302411), (42, Value.int .u32 3259730800), (43, Value.int .u32 3345764771), (44, Value.int .u32 3516065817), (45, Value.int .u32 3600352804), (46, Value.int .u32 4094571909), (47, Value.int .u32 275423344), (48, Value.int .u32 430227734), (49, Value.int .u32 506948616), (50, Value.int .u32 659060556), (51, Value.int .u32 883997877), (52, Value.int .u32 958139571), (53, Value.int .u32 1322822218), (54, Value.int .u32 1537002063), (55, Value.int .u32 1747873779), (56, Value.int .u32 1955562222), (57, Value.int .u32 2024104815), (58, Value.int .u32 2227730452), (59, Value.int .u32 2361852424), (60, Value.int .u32 2428436474), (61, Value.int .u32 2756734187), (62, Value.int .u32 3204031479), (63, Value.int .u32 3329325298)]).run Tryd.prog w = .ok (.agg rlCells) w := by kernel_rfl
def build57 (l : Array (Nat × Value)) : Sem Value := Instr.build 57 l
theorem build_57 (l : Array (Nat × Value)) : Instr.build 57 l = build57 l := rfl
@[irreducible] def newCells : Array Value := hcs H0 (List.replicate 64 0) 0
theorem run_build57 (w : World) : (build57 #[(0, Value.agg #[Value.int .u32 1779033703, Value.int .u32 3144134277, Value.int .u32 1013904242, Value.int .u32 2773480762, Value.int .u32 1359893119, Value.int .u32 2600822924, Value.int .u32 528734635, Value.int .u32 1541459225])]).run Tryd.prog w = .ok (.agg newCells) w := by kernel_rfl

attribute [local go_sem ↓] loadAt_50 storeAt_50 alloc_50 build_50 build_57 loadAt_57 storeAt_57 alloc_57
attribute [local go_sem] run_alloc50 run_build50 run_build57 run_alloc57

set_option maxHeartbeats 1000000 in
theorem new_any (w : World) : Calls Tryd.prog 12 #[] w fun e w' => e = .returned (.pointer (some ⟨w.heap.size, 0, none⟩)) ∧ Hs w' w.heap.size [] ∧ Below w.heap.size w w' ∧ w'.heap.size = w.heap.size + 1 := by
  have hs : Hs (w.alloc (.cells newCells 57)) w.heap.size [] := ⟨H0, List.replicate 64 0, ⟨by have := Bk.new 57 w newCells; unfold newCells at this ⊢; exact this, H0_length, by simp⟩, Held.nil _ _ _ (by simp)⟩
  have HS := Lib.hid hs
  clear hs
  go_enter Tryd.func12, Tryd.ntmps12
  go_wp2_with fail
  go_ret
  exact ⟨rfl, HS.out, (Below.refl _ _).alloc (Nat.le_refl _) _, by simp⟩
set_option maxRecDepth 100000 in
set_option maxHeartbeats 2000000 in
theorem words_any (w : World) : Calls Tryd.prog 19 #[] w fun e w' => e = .returned (.agg (nums .u32 RL).toArray) ∧ Below w.heap.size w w' := by
  have V0 : Bk 50 (w.alloc (.cells z50 50)) w.heap.size z50 := Bk.new 50 w z50
  obtain ⟨w5, hst0, V1, hg5, hs5⟩ := V0.store_whole (ty := 50) rlCells (by rw [rlCells_size, z50_size]) (by rw [rlCells_size]; exact size50) (by rw [rlCells_eq]; exact nums_one .u32 RL)
  have hst : (store50 (.pointer (some ⟨w.heap.size, 0, none⟩)) (.agg rlCells)).run Tryd.prog (w.alloc (.cells z50 50)) = .ok () w5 := hst0
  have q5 : Below w.heap.size w w5 := ((Below.refl _ _).alloc (Nat.le_refl _) _).trans (below_of_grown hg5 (Nat.le_refl _) (by simp))
  have HV := Lib.hid V1
  clear hst0 V0 V1 hg5 hs5
  go_enter Tryd.func19, Tryd.ntmps19
  go_wp2_with fail
  exact bodyPost_ret (v := .agg rlCells) (results_cell_row Tryd.results19 _ _ w.heap.size 50 rlCells (0, 0) _ rfl HV.out Tryd.underlying50 rfl (by rw [rlCells_size]; exact size50)) rfl ⟨by rw [rlCells_eq], q5⟩
set_option maxHeartbeats 1000000 in
theorem copy_none (w : World) : Calls Tryd.prog 18 #[.pointer none] w fun e w' => e = .returned (.pointer none) ∧ w = w' := by
  go_enter Tryd.func18, Tryd.ntmps18
  go_wp2_with fail
  go_ret
  exact ⟨rfl, rfl⟩
set_option maxHeartbeats 1000000 in
theorem copy_any (m : List Int) (g : Nat) (w : World) (S : Hs w g m) : Calls Tryd.prog 18 #[.pointer (some ⟨g, 0, none⟩)] w fun e w' => e = .returned (.pointer (some ⟨w.heap.size, 0, none⟩)) ∧ Hs w' w.heap.size m ∧ Below w.heap.size w w' ∧ w'.heap.size = w.heap.size + 1 := by
  obtain ⟨us, rest, S, H⟩ := S
  have hld := S.load
  have V0 : Bk 57 (w.alloc (.cells z57 57)) w.heap.size z57 := Bk.new 57 w z57
  obtain ⟨w5, hst0, V1, hg5, hs5⟩ := V0.store_whole (ty := 57) (hcs us rest (m.length : Int)) (by rw [z57_size, hcs_size _ S.hl S.rl]) (by rw [hcs_size _ S.hl S.rl]; exact size57) (hcs_one _ _ _)
  have hst : (store57 (.pointer (some ⟨w.heap.size, 0, none⟩)) (.agg (hcs us rest (m.length : Int)))).run Tryd.prog (w.alloc (.cells z57 57)) = .ok () w5 := hst0
  have q5 : Below w.heap.size w w5 := ((Below.refl _ _).alloc (Nat.le_refl _) _).trans (below_of_grown hg5 (Nat.le_refl _) (by simp))
  have HV : Hid (Hs w5 w.heap.size m) := ⟨us, rest, ⟨V1, S.hl, S.rl⟩, H⟩
  have hsz : w5.heap.size = w.heap.size + 1 := by rw [hs5]; simp
  have HSZ := Lib.hid hsz
  generalize hcs us rest (m.length : Int) = C at *
  clear hst0 V0 V1 hg5 hs5 H S hsz
  go_enter Tryd.func18, Tryd.ntmps18
  go_wp2_with fail
  go_ret
  exact ⟨rfl, HV.out, q5, HSZ.out⟩
end Go.Proofs.YtikoahjnhdnhdaaDoor
