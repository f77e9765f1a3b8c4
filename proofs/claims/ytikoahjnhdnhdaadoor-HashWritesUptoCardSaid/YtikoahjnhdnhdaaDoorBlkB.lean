/- CONTRACT of (*hash.Hash).block: its words become blkF of the words and the rest. -/
import Derived.Test.YtikoahjnhdnhdaaDoorState
import Derived.Deep.RegionLaw
namespace Go.Proofs.YtikoahjnhdnhdaaDoor
open Go.ChangeShapes Go.WideShapes Go.ChangeAt Go.RowKit Go.Proofs.YtikoahjnhdnhdaaDoorW.PrintWords Go.Deep
set_option linter.unusedVariables false
set_option linter.unusedSimpArgs false

theorem quiet_add_left {P : Program} {f : FuncId} {args : Array Value} {w : World} {a n : Nat} {v : Value}
    (h : Calls P f args (w.drewN (a + n)) fun e w' => e = .returned v ∧ w.drewN (a + n) = w') :
    Calls P f args (w.drewN (a + n)) fun e w'' => e = .returned v ∧ ∃ m, w'' = w.drewN (a + m) :=
  h.mono fun _ _ ⟨he, hm⟩ => ⟨he, n, hm.symm⟩
theorem quiet_left {P : Program} {f : FuncId} {args : Array Value} {w : World} {n : Nat} {v : Value}
    (h : Calls P f args (w.drewN n) fun e w' => e = .returned v ∧ w.drewN n = w') : Calls P f args (w.drewN n) fun e w'' => e = .returned v ∧ ∃ m, w'' = w.drewN m :=
  h.mono fun _ _ ⟨he, hm⟩ => ⟨he, n, hm.symm⟩
theorem eight {v : List Int} (h : v.length = 8) : v = [v.getD 0 0, v.getD 1 0, v.getD 2 0, v.getD 3 0, v.getD 4 0, v.getD 5 0, v.getD 6 0, v.getD 7 0] := by
  match v, h with
  | [a0, a1, a2, a3, a4, a5, a6, a7], _ => rfl
theorem copy_src {w : World} {g : Nat} {x0 x1 x2 x3 x4 x5 x6 x7 : Int} (h : Bk 52 w g (nums .u32 [x0, x1, x2, x3, x4, x5, x6, x7]).toArray) (j : Nat) (v : Value) (hv : (nums .u32 [x0, x1, x2, x3, x4, x5, x6])[j]? = some v) : w.cell? ((⟨g, 0, none⟩ : Addr).add j) = some v := by
  rw [Go.WideShapes.add_plain, Nat.zero_add, h.cell, ← hv]
  have hj : j < 7 := by have := (List.getElem?_eq_some_iff.1 hv).1; simpa [nums] using this
  rcases (by omega : j = 0 ∨ j = 1 ∨ j = 2 ∨ j = 3 ∨ j = 4 ∨ j = 5 ∨ j = 6) with rfl | rfl | rfl | rfl | rfl | rfl | rfl <;> rfl
theorem copy_words {w : World} {g : Nat} {x0 x1 x2 x3 x4 x5 x6 x7 : Int} (h : Bk 52 w g (nums .u32 [x0, x1, x2, x3, x4, x5, x6, x7]).toArray) :
    ∃ F : Nat → World, (∀ m ty, (Builtin.copy_ #[60, 60] ty #[.slice (some ⟨g, 1, none⟩) 7 7, .slice (some ⟨g, 0, none⟩) 7 8]).run Tryd.prog (w.drewN m) = .ok (goInt 7) (F m)) ∧
      ∀ m, Bk 52 (F m) g (nums .u32 [x0, x0, x1, x2, x3, x4, x5, x6]).toArray ∧ Below g w (F m) := by
  refine ⟨fun m => (w.drewN m).setRow g (nums .u32 [x0, x0, x1, x2, x3, x4, x5, x6]).toArray, fun m ty => ?_, fun m => ⟨setRow_heap (w.drewN m) g _ _ 52 (0, 0) h, below_setRow (w := w.drewN m) (w0 := w) ⟨rfl, rfl, rfl, Nat.le_refl _, fun _ _ => rfl⟩ (Nat.le_refl _) _⟩⟩
  have := run_copy_row (P := Tryd.prog) (w.drewN m) 60 60 ty 49 g 1 7 7 ⟨g, 0, none⟩ 7 8 (nums .u32 [x0, x1, x2, x3, x4, x5, x6, x7]).toArray 52 (nums .u32 [x0, x1, x2, x3, x4, x5, x6]) Tryd.underlying60 size49 h rfl (fun j v hv => copy_src (w := w.drewN m) h j v hv) (by simp [nums]) (fun v hv => nums_one .u32 [x0, x1, x2, x3, x4, x5, x6] v hv)
  exact this
theorem below_any {B : Nat} {w w' : World} (h1 : w'.os = w.os) (h2 : w'.tape = w.tape) (h3 : w'.output = w.output) (h4 : w.heap.size ≤ w'.heap.size) (h5 : ∀ i, i < B → w'.heap[i]? = w.heap[i]?) : Below B w w' := ⟨h1, h2, h3, h4, h5⟩

attribute [local go_sem ↓] loadAt_50 storeAt_50 alloc_50 loadAt_52 storeAt_52 alloc_52
attribute [local go_sem] run_alloc50 run_alloc52

set_option maxRecDepth 100000 in
set_option maxHeartbeats 2000000 in
theorem block_any (us rest : List Int) (n : Int) (g : Nat) (w : World) (T : Tabs w) (S : St w g us rest n) (hg : 0 < g) :
    Calls Tryd.prog 21 #[.pointer (some ⟨g, 0, none⟩)] w fun e w' => e = .returned (.tuple #[]) ∧ St w' g (blkF RL us rest) rest n ∧ w.grownBy w' (some g) := by
  obtain ⟨w4, hw4⟩ : ∃ w4, w4 = w.alloc (.cells z50 50) := ⟨_, rfl⟩
  have B3 : Bk 50 w4 w.heap.size (nums .u32 (wz rest 0)).toArray := by
    have := Bk.new 50 w z50
    rw [hw4, wz_zero]
    have e : (nums .u32 (List.replicate 64 0)).toArray = z50 := by unfold z50; rfl
    rw [e]
    exact this
  have S4 : St w4 g us rest n := by rw [hw4]; exact S.below ((Below.refl _ _).alloc (Nat.le_refl _) _)
  have hgw : g < w.heap.size := S.blk.lt
  have s4 : w.heap.size < w4.heap.size := B3.lt
  have G4 : w.grownBy w4 (some g) := by rw [hw4]; exact World.grownBy_alloc w _ _
  have T4 : Tabs w4 := T.grown G4 hg
  have HW4 := Lib.hid hw4
  have HB3 := Lib.hid B3
  have HS4 := Lib.hid S4
  have HG4 := Lib.hid G4
  have HT4 := Lib.hid T4
  clear hw4 B3 S4 G4 T4 T S
  go_enter Tryd.func21, Tryd.ntmps21
  go_wp2_with fail
  go_loopw [3, 4, 5, 14] (fun _ x y i wr => ∃ k : Nat, k ≤ 64 ∧ i = .int .i64 k ∧ Hid (Bk 50 wr w.heap.size (nums .u32 (wz rest k)).toArray) ∧ Hid (w4.grownBy wr (some w.heap.size))) (fun _ _ _ i _ => 64 - (intOf i).toNat)
  case atStart =>
    refine ⟨0, by omega, rfl, ?_, ?_⟩
    · rw [← HW4.out]; exact HB3
    · rw [← HW4.out]; exact World.grownBy.refl _ _
  case round =>
    obtain ⟨k, hk, rfl, HW, HG⟩ := hrel
    by_cases hlt : k < 64
    · have f4 : wr.frozen? ⟨w.heap.size, k, none⟩ = false := HW.out.frozen k
      have c4 : wr.cell? ⟨w.heap.size, k, none⟩ = some (.int .u32 0) := by
        rw [HW.out.cell, nums_at _ _ _ (by rw [wz_length _ _ hk]; omega), wz_here]
      have Sr := HS4.out.other HG.out (by omega)
      by_cases h16 : k < 16
      · have c0 := Sr.rest_at (4 * k) (by omega)
        have c1 := Sr.rest_at (4 * k + 1) (by omega)
        have c2 := Sr.rest_at (4 * k + 2) (by omega)
        have c3 := Sr.rest_at (4 * k + 3) (by omega)
        have HN : Hid (Bk 50 (wr.setCell ⟨w.heap.size, k, none⟩ (.int .u32 (load4 (rest.getD (4 * k) 0) (rest.getD (4 * k + 1) 0) (rest.getD (4 * k + 2) 0) (rest.getD (4 * k + 3) 0)))) w.heap.size (nums .u32 (wz rest (k + 1))).toArray) := by
          have := HW.out.set k (.int .u32 (nextW rest (wl rest k) k))
          rw [set_nums, wz_step rest k hlt] at this
          unfold nextW at this
          rw [if_pos h16] at this
          exact this
        generalize rest.getD (4 * k) 0 = x0 at *
        generalize rest.getD (4 * k + 1) 0 = x1 at *
        generalize rest.getD (4 * k + 2) 0 = x2 at *
        generalize rest.getD (4 * k + 3) 0 = x3 at *
        have HG1 : Hid (w4.grownBy (wr.setCell ⟨w.heap.size, k, none⟩ (.int .u32 (load4 x0 x1 x2 x3))) (some w.heap.size)) := only_set HG.out k _
        have e1 : (4 * (k : Int)).toNat = 4 * k := by omega
        have e2 : (4 * (k : Int) + 1).toNat = 4 * k + 1 := by omega
        have e3 : (4 * (k : Int) + 2).toNat = 4 * k + 2 := by omega
        have e4 : (4 * (k : Int) + 3).toNat = 4 * k + 3 := by omega
        clear Sr
        go_wp2_with fail
        go_region
        go_wp2
        go_roundw
        case rel => exact ⟨k + 1, by omega, by go_num, HN, only_as HG1.out rfl rfl rfl rfl⟩
        case measure => simp [intOf]; omega
      · obtain ⟨m15, q15⟩ : ∃ m : Nat, (k : Int) - 15 = m := ⟨k - 15, by omega⟩
        obtain ⟨m2, q2⟩ : ∃ m : Nat, (k : Int) - 2 = m := ⟨k - 2, by omega⟩
        obtain ⟨m16, q16⟩ : ∃ m : Nat, (k : Int) - 16 = m := ⟨k - 16, by omega⟩
        obtain ⟨m7, q7⟩ : ∃ m : Nat, (k : Int) - 7 = m := ⟨k - 7, by omega⟩
        have at_ : ∀ i, i < k → wr.cell? ⟨w.heap.size, i, none⟩ = some (.int .u32 ((wl rest k).getD i 0)) := fun i hi => by
          rw [HW.out.cell, nums_at _ _ _ (by rw [wz_length _ _ hk]; omega), wz_at rest k i hi]
        have d15 := at_ m15 (by omega)
        have d2 := at_ m2 (by omega)
        have d16 := at_ m16 (by omega)
        have d7 := at_ m7 (by omega)
        have HN : Hid (Bk 50 (wr.setCell ⟨w.heap.size, k, none⟩ (.int .u32 (extW ((wl rest k).getD m16 0) ((wl rest k).getD m7 0) ((wl rest k).getD m15 0) ((wl rest k).getD m2 0)))) w.heap.size (nums .u32 (wz rest (k + 1))).toArray) := by
          have := HW.out.set k (.int .u32 (nextW rest (wl rest k) k))
          rw [set_nums, wz_step rest k hlt] at this
          unfold nextW at this
          rw [if_neg h16, show k - 16 = m16 by omega, show k - 7 = m7 by omega, show k - 15 = m15 by omega, show k - 2 = m2 by omega] at this
          exact this
        generalize (wl rest k).getD m15 0 = y15 at *
        generalize (wl rest k).getD m2 0 = y2 at *
        generalize (wl rest k).getD m16 0 = y16 at *
        generalize (wl rest k).getD m7 0 = y7 at *
        have HG1 : Hid (w4.grownBy (wr.setCell ⟨w.heap.size, k, none⟩ (.int .u32 (extW y16 y7 y15 y2))) (some w.heap.size)) := only_set HG.out k _
        have l1 : m15 < 64 := by omega
        have l2 : m2 < 64 := by omega
        have l3 : m16 < 64 := by omega
        have l4 : m7 < 64 := by omega
        have l1' : (m15 : Int) < 64 := by omega
        have l2' : (m2 : Int) < 64 := by omega
        have l3' : (m16 : Int) < 64 := by omega
        have l4' : (m7 : Int) < 64 := by omega
        have e15 : IntKind.i64.wrap (m15 : Int) = m15 := IntWalk.i64_in _ (by omega)
        have e2 : IntKind.i64.wrap (m2 : Int) = m2 := IntWalk.i64_in _ (by omega)
        have e16 : IntKind.i64.wrap (m16 : Int) = m16 := IntWalk.i64_in _ (by omega)
        have e7 : IntKind.i64.wrap (m7 : Int) = m7 := IntWalk.i64_in _ (by omega)
        have n16 : k ≠ m16 := by omega
        have n7 : k ≠ m7 := by omega
        clear at_ Sr
        go_wp2_with fail
        go_quiet (fail)
        go_wp2_with fail
        go_region_held3 (fun w' => w'.cell? ⟨w.heap.size, m16, none⟩ = some (.int .u32 y16) ∧ w'.cell? ⟨w.heap.size, m7, none⟩ = some (.int .u32 y7) ∧ w'.cell? ⟨w.heap.size, k, none⟩ = some (cellOr w' ⟨w.heap.size, k, none⟩) ∧ w'.frozen? ⟨w.heap.size, k, none⟩ = false)
          (first | (exact ⟨d16, d7, cellOr_some c4, f4⟩) | (exact ⟨cell_off (w := World.drewN wr _) d16 n16 _, cell_off (w := World.drewN wr _) d7 n7 _, cellOr_set (w := World.drewN wr _) c4 _, (World.frozen?_setCell _ _ _ _).trans f4⟩))
          (first | (go_at_call 23; refine (right_any _ _ (by decide) (by decide) _).mono ?_; rintro e w' ⟨rfl, rfl⟩))
        all_goals
          go_wp2
          go_roundw
          case rel => exact ⟨k + 1, by omega, by go_num, HN, only_as HG1.out rfl rfl rfl rfl⟩
          case measure => simp [intOf]; omega
    · obtain rfl : k = 64 := by omega
      rename World => wA
      have hgA := HG.out
      have sA := hgA.size
      have A4 : St wA g us rest n := HS4.out.other hgA (by omega)
      have GA : w.grownBy wA (some g) := ⟨hgA.os.trans HG4.out.os, hgA.tape.trans HG4.out.tape, hgA.output.trans HG4.out.output, by have := HG4.out.size; omega, fun i hi hne => (hgA.block i (by omega) (fun e => by injection e with e; omega)).trans (HG4.out.block i hi hne)⟩
      have TA : Tabs wA := HT4.out.grown hgA (by omega)
      have hld := A4.load_h
      have V0 : Bk 52 (wA.alloc (.cells z52 52)) wA.heap.size z52 := Bk.new 52 wA z52
      have h8 : (nums .u32 us).toArray.size = 8 := by simp [nums, A4.hl]
      obtain ⟨w5, hst0, V1, hg5, hs5⟩ := V0.store_whole (ty := 52) (nums .u32 us).toArray (by rw [h8, z52_size]) (size52' _ h8) (nums_one .u32 us)
      have hst : (store52 (.pointer (some ⟨wA.heap.size, 0, none⟩)) (.agg (nums .u32 us).toArray)).run Tryd.prog (wA.alloc (.cells z52 52)) = .ok () w5 := hst0
      have s5 : wA.heap.size < w5.heap.size := V1.lt
      have W5 : Bk 50 w5 w.heap.size (nums .u32 (wl rest 64)).toArray := by
        have := HW.out
        rw [wz_full] at this
        exact (this.alloc (.cells z52 52)).other hg5 (by omega)
      have S5 : St w5 g us rest n := (A4.below ((Below.refl _ _).alloc (Nat.le_refl _) (.cells z52 52))).other hg5 (by omega)
      have G5 : w.grownBy w5 (some g) := ⟨hg5.os.trans GA.os, hg5.tape.trans GA.tape, hg5.output.trans GA.output, by omega, fun i hi hne => ((hg5.block i (by simp; omega) (fun e => by injection e with e; omega)).trans (Below.heap_alloc wA _ i (by omega))).trans (GA.block i hi hne)⟩
      have T5 : Tabs w5 := (TA.below ((Below.refl _ _).alloc (Nat.le_refl _) (.cells z52 52))).grown hg5 (by omega)
      have hlr := T5.load
      have HV : Hid (Bk 52 w5 wA.heap.size (nums .u32 (vl RL (wl rest 64) us 0)).toArray) := V1
      have HLH := Lib.hid A4.hl
      have HRR := Lib.hid A4.rl
      have HW5 := Lib.hid W5
      have HS5 := Lib.hid S5
      have HG5 := Lib.hid G5
      generalize hCH : (nums .u32 us).toArray = CH at *
      clear hst0 V0 V1 hg5 hs5 HW HG A4 GA TA S5 G5 T5 W5 h8 hgA hCH
      go_wp2_with fail
      clear hst hld hlr
      go_loopw [7, 8, 9, 10, 11, 12, 105] (fun _ _ _ _ _ _ i wr => ∃ k : Nat, k ≤ 64 ∧ i = .int .i64 k ∧ Hid (Bk 52 wr wA.heap.size (nums .u32 (vl RL (wl rest 64) us k)).toArray) ∧ Below wA.heap.size w5 wr) (fun _ _ _ _ _ _ i _ => 64 - (intOf i).toNat)
      case atStart => exact ⟨0, by omega, rfl, HV, Below.refl _ _⟩
      case round =>
        clear HV
        obtain ⟨k, hk, rfl, HV, hBv⟩ := hrel
        have hvl := vl_length RL (wl rest 64) HLH.out k
        by_cases hlt : k < 64
        · have hv8 := eight hvl
          have HEND : Hid (vl RL (wl rest 64) us (k + 1) = rnd (vl RL (wl rest 64) us k) (RL.getD k 0) ((wl rest 64).getD k 0)) := rfl
          have HVE : Hid (Bk 52 wr wA.heap.size (nums .u32 [(vl RL (wl rest 64) us k).getD 0 0, (vl RL (wl rest 64) us k).getD 1 0, (vl RL (wl rest 64) us k).getD 2 0, (vl RL (wl rest 64) us k).getD 3 0, (vl RL (wl rest 64) us k).getD 4 0, (vl RL (wl rest 64) us k).getD 5 0, (vl RL (wl rest 64) us k).getD 6 0, (vl RL (wl rest 64) us k).getD 7 0]).toArray) := by
            show Bk _ _ _ _
            rw [← hv8]
            exact HV.out
          have hix := fun W => run_index50 rlCells k _ hlt (rlCells_at k hlt) W
          have wat : wr.cell? ⟨w.heap.size, k, none⟩ = some (.int .u32 ((wl rest 64).getD k 0)) := by
            rw [show wr.cell? ⟨w.heap.size, k, none⟩ = w5.cell? ⟨w.heap.size, k, none⟩ from hBv.cell (p := ⟨w.heap.size, k, none⟩) (show w.heap.size < wA.heap.size by omega), HW5.out.cell, nums_at _ _ _ (by rw [wl_length]; omega)]
          unfold rnd at HEND
          clear hv8 hvl HV
          generalize (vl RL (wl rest 64) us k).getD 0 0 = x0 at *
          generalize (vl RL (wl rest 64) us k).getD 1 0 = x1 at *
          generalize (vl RL (wl rest 64) us k).getD 2 0 = x2 at *
          generalize (vl RL (wl rest 64) us k).getD 3 0 = x3 at *
          generalize (vl RL (wl rest 64) us k).getD 4 0 = x4 at *
          generalize (vl RL (wl rest 64) us k).getD 5 0 = x5 at *
          generalize (vl RL (wl rest 64) us k).getD 6 0 = x6 at *
          generalize (vl RL (wl rest 64) us k).getD 7 0 = x7 at *
          generalize RL.getD k 0 = kk at *
          generalize (wl rest 64).getD k 0 = ww at *
          have v0 : wr.cell? ⟨wA.heap.size, 0, none⟩ = some (.int .u32 x0) := by rw [HVE.out.cell]; rfl
          have v1 : wr.cell? ⟨wA.heap.size, 1, none⟩ = some (.int .u32 x1) := by rw [HVE.out.cell]; rfl
          have v2 : wr.cell? ⟨wA.heap.size, 2, none⟩ = some (.int .u32 x2) := by rw [HVE.out.cell]; rfl
          have v4 : wr.cell? ⟨wA.heap.size, 4, none⟩ = some (.int .u32 x4) := by rw [HVE.out.cell]; rfl
          have v5 : wr.cell? ⟨wA.heap.size, 5, none⟩ = some (.int .u32 x5) := by rw [HVE.out.cell]; rfl
          have v6 : wr.cell? ⟨wA.heap.size, 6, none⟩ = some (.int .u32 x6) := by rw [HVE.out.cell]; rfl
          have v7 : wr.cell? ⟨wA.heap.size, 7, none⟩ = some (.int .u32 x7) := by rw [HVE.out.cell]; rfl
          go_wp2_with fail
          go_quiet (fail)
          go_wp2_with fail
          go_quiet ((go_at_call 23; first | exact quiet_left (right_any _ _ (by decide) (by decide) _) | exact quiet_add_left (right_any _ _ (by decide) (by decide) _)))
          go_wp2_with fail
          go_quiet ((go_at_call 23; first | exact quiet_left (right_any _ _ (by decide) (by decide) _) | exact quiet_add_left (right_any _ _ (by decide) (by decide) _)))
          go_wp2_with fail
          clear v0 v1 v2 v4 v5 v6 v7 wat hix
          obtain ⟨F, hcp, hF⟩ := copy_words HVE.out
          have HFB := Lib.hid hF
          clear hF
          go_region
          generalize hW8 : F _ = w8
          have C8 : Hid (Bk 52 w8 wA.heap.size (nums .u32 [x0, x0, x1, x2, x3, x4, x5, x6]).toArray) := by rw [← hW8]; exact (HFB.out _).1
          have B8 : Below wA.heap.size wr w8 := by rw [← hW8]; exact (HFB.out _).2
          have c0 : w8.cell? ⟨wA.heap.size, 0, none⟩ = some (.int .u32 x0) := by rw [C8.out.cell]; rfl
          have c4 : w8.cell? ⟨wA.heap.size, 4, none⟩ = some (.int .u32 x3) := by rw [C8.out.cell]; rfl
          have f0 : w8.frozen? ⟨wA.heap.size, 0, none⟩ = false := C8.out.frozen 0
          have f4 : w8.frozen? ⟨wA.heap.size, 4, none⟩ = false := C8.out.frozen 4
          have HE2 : ∀ A B : Int, A = (oneW x4 x5 x6 x7 kk ww + twoW x0 x1 x2) % 4294967296 → B = (x3 + oneW x4 x5 x6 x7 kk ww) % 4294967296 → Hid (Bk 52 ((w8.setCell ⟨wA.heap.size, 0, none⟩ (.int .u32 A)).setCell ⟨wA.heap.size, 4, none⟩ (.int .u32 B)) wA.heap.size (nums .u32 (vl RL (wl rest 64) us (k + 1))).toArray) := fun A B hA hB => by
            have := (C8.out.set 0 (.int .u32 A)).set 4 (.int .u32 B)
            rw [set_nums, set_nums] at this
            show Bk _ _ _ _
            rw [HEND.out, ← hA, ← hB]
            exact this
          have hB9 : ∀ A B : Value, Below wA.heap.size w5 ((w8.setCell ⟨wA.heap.size, 0, none⟩ A).setCell ⟨wA.heap.size, 4, none⟩ B) := fun A B => ((hBv.trans B8).setCell (Nat.le_refl _) A).setCell (Nat.le_refl _) B
          have H2 := Lib.hid HE2
          have HB9 := Lib.hid hB9
          clear HE2 hB9 hcp HFB hW8 F
          go_wp2_with fail
          go_roundw
          case rel =>
            first
            | exact ⟨k + 1, by omega, by go_num, H2.out _ _ rfl rfl, HB9.out _ _⟩
            | ((repeat apply Exists.intro); exact ⟨⟨k + 1, by omega, by go_num, H2.out _ _ rfl rfl, HB9.out _ _⟩, rfl⟩)
          case measure => simp [intOf]; omega
        · obtain rfl : k = 64 := by omega
          rename World => wC
          have hgC := hBv
          have sC := hgC.size
          have SC : Hid (St wC g us rest n) := ⟨(hgC.block g (by omega)).trans HS5.out.blk, HS5.out.hl, HS5.out.rl⟩
          have GC : Hid (w.grownBy wC (some g)) := ⟨hgC.os.trans HG5.out.os, hgC.tape.trans HG5.out.tape, hgC.output.trans HG5.out.output, by have := HG5.out.size; omega, fun i hi hne => (hgC.block i (by omega)).trans (HG5.out.block i hi hne)⟩
          have S0 : Hid (St wC g (fl (vl RL (wl rest 64) us 64) us 0) rest n) := SC.out
          have CV := HV
          have HVL := Lib.hid hvl
          have hne : g ≠ wA.heap.size := by omega
          generalize hVE : vl RL (wl rest 64) us 64 = V at *
          have HVE := Lib.hid hVE
          clear hVE HV hvl hgC HS5 HG5 HW5 hBv
          go_wp2_with fail
          go_loopw [13, 178] (fun _ i wr => ∃ k : Nat, k ≤ 8 ∧ i = .int .i64 k ∧ Hid (St wr g (fl V us k) rest n) ∧ Hid (wC.grownBy wr (some g))) (fun _ i _ => 8 - (intOf i).toNat)
          case atStart => exact ⟨0, by omega, rfl, S0, World.grownBy.refl _ _⟩
          case round =>
            clear S0
            obtain ⟨k, hk, rfl, S0, HG⟩ := hrel
            by_cases hlt : k < 8
            · have h0 := S0.out.h_at k hlt
              have v0 : wr.cell? ⟨wA.heap.size, k, none⟩ = some (.int .u32 (V.getD k 0)) := by
                rw [(CV.out.other HG.out (by omega)).cell, nums_at _ _ _ (by have := HVL.out; omega)]
              have f0 : wr.frozen? ⟨g, k, none⟩ = false := S0.out.blk.frozen k
              have HN : Hid (St (wr.setCell ⟨g, k, none⟩ (.int .u32 (((fl V us k).getD k 0 + V.getD k 0) % 4294967296))) g (fl V us (k + 1)) rest n) := S0.out.set_h k hlt _
              have HG2 := Lib.hid (only_set HG.out k (.int .u32 (((fl V us k).getD k 0 + V.getD k 0) % 4294967296)))
              generalize (fl V us k).getD k 0 = y0 at *
              generalize V.getD k 0 = y1 at *
              go_wp2_with fail
              go_region
              go_wp2
              go_roundw
              case rel => exact ⟨k + 1, by omega, by go_num, ⟨HN.out.blk, HN.out.hl, HN.out.rl⟩, only_as HG2.out rfl rfl rfl rfl⟩
              case measure => simp [intOf]; omega
            · obtain rfl : k = 8 := by omega
              have SF := S0.out
              have GF : w.grownBy wr (some g) := World.grownBy.trans GC.out HG.out
              have HSF : Hid (St wr g (blkF RL us rest) rest n) := by
                show St _ _ _ _ _
                unfold blkF
                rw [HVE.out]
                exact SF
              have HGF := Lib.hid GF
              clear SF GF S0 HG
              go_wp2_with fail
              go_end0
              exact ⟨rfl, HSF.out, HGF.out⟩
end Go.Proofs.YtikoahjnhdnhdaaDoor
