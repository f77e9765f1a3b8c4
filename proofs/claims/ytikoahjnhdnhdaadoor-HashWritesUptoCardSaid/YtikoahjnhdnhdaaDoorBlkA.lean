/- CONTRACT of scrupleref02.block: it answers blkF. -/
import Derived.Test.YtikoahjnhdnhdaaDoorBase
namespace Go.Proofs.YtikoahjnhdnhdaaDoor
open Go.ChangeShapes Go.WideShapes Go.ChangeAt Go.RowKit Go.Proofs.YtikoahjnhdnhdaaDoorW.PrintWords Go.Deep
set_option linter.unusedVariables false
set_option linter.unusedSimpArgs false

attribute [local go_sem ↓] loadAt_50 storeAt_50 alloc_50 loadAt_52 storeAt_52 alloc_52
attribute [local go_sem] run_alloc50 run_alloc52

set_option maxRecDepth 100000 in
set_option maxHeartbeats 2000000 in
theorem rblock_any (H K bs : List Int) (a : Option Addr) (n c : Nat) (w : World) (hH : H.length = 8) (hK : K.length = 64) (hn : 64 ≤ n) (B : Bytes w a n bs) :
    Calls Tryd.prog 20 #[.agg (nums .u32 H).toArray, .agg (nums .u32 K).toArray, .slice a n c] w fun e w' => e = .returned (.agg (nums .u32 (blkF K H bs)).toArray) ∧ Below w.heap.size w w' := by
  show Calls Tryd.prog 20 _ w fun e w' => e = .returned (.agg (nums .u32 (fl (vl K (wl bs 64) H 64) H 8)).toArray) ∧ Below w.heap.size w w'
  obtain ⟨CH, hCH⟩ : ∃ C, C = (nums .u32 H).toArray := ⟨_, rfl⟩
  obtain ⟨CK, hCK⟩ : ∃ C, C = (nums .u32 K).toArray := ⟨_, rfl⟩
  rw [← hCH, ← hCK]
  have sH : CH.size = 8 := by rw [hCH]; simp [nums, hH]
  have sK : CK.size = 64 := by rw [hCK]; simp [nums, hK]
  obtain ⟨w4, hw4⟩ : ∃ w4, w4 = (((w.alloc (.cells CH 52)).alloc (.cells CK 50)).alloc (.cells z52 52)).alloc (.cells z50 50) := ⟨_, rfl⟩
  have B0 : Bk 52 w4 w.heap.size CH := by rw [hw4]; exact (((Bk.new 52 w CH).alloc _).alloc _).alloc _
  have B1 : Bk 50 w4 (w.heap.size + 1) CK := by rw [hw4]; have := Bk.new 50 (w.alloc (.cells CH 52)) CK; simp at this; exact (this.alloc _).alloc _
  have B2 : Bk 52 w4 (w.heap.size + 2) z52 := by rw [hw4]; have := Bk.new 52 ((w.alloc (.cells CH 52)).alloc (.cells CK 50)) z52; simp at this; exact this.alloc _
  have B3 : Bk 50 w4 (w.heap.size + 3) (nums .u32 (wz bs 0)).toArray := by
    have := Bk.new 50 (((w.alloc (.cells CH 52)).alloc (.cells CK 50)).alloc (.cells z52 52)) z50
    simp at this
    rw [hw4, wz_zero]
    have e : (nums .u32 (List.replicate 64 0)).toArray = z50 := by unfold z50; rfl
    rw [e]
    exact this
  have q4 : Below w.heap.size w w4 := by rw [hw4]; exact ((((Below.refl _ _).alloc (Nat.le_refl _) _).alloc (by simp) _).alloc (by simp; omega) _).alloc (by simp; omega) _
  have s4 : w.heap.size + 3 < w4.heap.size := B3.lt
  have HB := Lib.hid B
  have HW4 := Lib.hid hw4
  have HB0 := Lib.hid B0
  have HB1 := Lib.hid B1
  have HB2 := Lib.hid B2
  have HB3 := Lib.hid B3
  have HCH := Lib.hid hCH
  have HCK := Lib.hid hCK
  have HLH := Lib.hid hH
  have HLK := Lib.hid hK
  have HSH := Lib.hid sH
  have HSK := Lib.hid sK
  clear B hw4 B0 B1 B2 B3 hCH hCK sH sK hH hK
  go_enter Tryd.func20, Tryd.ntmps20
  go_wp2_with fail
  go_loopw [8, 9, 10] (fun i x y wr => ∃ k : Nat, k ≤ 64 ∧ i = .int .i64 k ∧ Hid (Bk 50 wr (w.heap.size + 3) (nums .u32 (wz bs k)).toArray) ∧ Hid (w4.grownBy wr (some (w.heap.size + 3)))) (fun i _ _ _ => 64 - (intOf i).toNat)
  case atStart =>
    refine ⟨0, by omega, rfl, ?_, ?_⟩
    · rw [← HW4.out]; exact HB3
    · rw [← HW4.out]; exact World.grownBy.refl _ _
  case round =>
    obtain ⟨k, hk, rfl, HW, HG⟩ := hrel
    have hB : Below w.heap.size w wr := q4.grown HG.out q4.size (fun j hj => by injection hj with hj; omega)
    by_cases hlt : k < 64
    · have f4 : wr.frozen? ⟨w.heap.size + 3, k, none⟩ = false := HW.out.frozen k
      have c4 : wr.cell? ⟨w.heap.size + 3, k, none⟩ = some (.int .u32 0) := by
        rw [HW.out.cell, nums_at _ _ _ (by rw [wz_length _ _ hk]; omega), wz_here]
      by_cases h16 : k < 16
      · obtain ⟨b, o, rfl, hcell⟩ := (HB.out.below hB).at_ (by omega)
        have c0 := hcell (4 * k) (by omega)
        have c1 := hcell (4 * k + 1) (by omega)
        have c2 := hcell (4 * k + 2) (by omega)
        have c3 := hcell (4 * k + 3) (by omega)
        have HN : Hid (Bk 50 (wr.setCell ⟨w.heap.size + 3, k, none⟩ (.int .u32 (load4 (bs.getD (4 * k) 0) (bs.getD (4 * k + 1) 0) (bs.getD (4 * k + 2) 0) (bs.getD (4 * k + 3) 0)))) (w.heap.size + 3) (nums .u32 (wz bs (k + 1))).toArray) := by
          have := HW.out.set k (.int .u32 (nextW bs (wl bs k) k))
          rw [set_nums, wz_step bs k hlt] at this
          unfold nextW at this
          rw [if_pos h16] at this
          exact this
        generalize bs.getD (4 * k) 0 = x0 at *
        generalize bs.getD (4 * k + 1) 0 = x1 at *
        generalize bs.getD (4 * k + 2) 0 = x2 at *
        generalize bs.getD (4 * k + 3) 0 = x3 at *
        have HG1 : Hid (w4.grownBy (wr.setCell ⟨w.heap.size + 3, k, none⟩ (.int .u32 (load4 x0 x1 x2 x3))) (some (w.heap.size + 3))) := only_set HG.out k _
        clear hcell hB
        go_wp2_with fail
        go_region
        go_wp2
        go_roundw
        case rel => exact ⟨k + 1, by omega, by go_num, HN, only_as HG1.out rfl rfl rfl rfl⟩
        case measure => simp [intOf]; omega
      · obtain ⟨m15, q15⟩ : ∃ m : Nat, (k : Int) - 15 = m := ⟨k - 15, by omega⟩
        obtain ⟨m2, q2⟩ : ∃ m : Nat, (k : Int) - 2 = m := ⟨k - 2, by omega⟩
        obtain ⟨m16, q16⟩ : ∃ m : Nat, (k : Int) - 16 = m := ⟨k - 16, by omega⟩
        obtain ⟨m7, q7⟩ : ∃ m : Nat, (k : Int) - 7 = m := ⟨k - 7, by omega⟩
        have at_ : ∀ i, i < k → wr.cell? ⟨w.heap.size + 3, i, none⟩ = some (.int .u32 ((wl bs k).getD i 0)) := fun i hi => by
          rw [HW.out.cell, nums_at _ _ _ (by rw [wz_length _ _ hk]; omega), wz_at bs k i hi]
        have d15 := at_ m15 (by omega)
        have d2 := at_ m2 (by omega)
        have d16 := at_ m16 (by omega)
        have d7 := at_ m7 (by omega)
        have HN : Hid (Bk 50 (wr.setCell ⟨w.heap.size + 3, k, none⟩ (.int .u32 (extW ((wl bs k).getD m16 0) ((wl bs k).getD m7 0) ((wl bs k).getD m15 0) ((wl bs k).getD m2 0)))) (w.heap.size + 3) (nums .u32 (wz bs (k + 1))).toArray) := by
          have := HW.out.set k (.int .u32 (nextW bs (wl bs k) k))
          rw [set_nums, wz_step bs k hlt] at this
          unfold nextW at this
          rw [if_neg h16, show k - 16 = m16 by omega, show k - 7 = m7 by omega, show k - 15 = m15 by omega, show k - 2 = m2 by omega] at this
          exact this
        generalize (wl bs k).getD m15 0 = y15 at *
        generalize (wl bs k).getD m2 0 = y2 at *
        generalize (wl bs k).getD m16 0 = y16 at *
        generalize (wl bs k).getD m7 0 = y7 at *
        have HG1 : Hid (w4.grownBy (wr.setCell ⟨w.heap.size + 3, k, none⟩ (.int .u32 (extW y16 y7 y15 y2))) (some (w.heap.size + 3))) := only_set HG.out k _
        have l1 : m15 < 64 := by omega
        have l2 : m2 < 64 := by omega
        have l3 : m16 < 64 := by omega
        have l4 : m7 < 64 := by omega
        have l1' : (m15 : Int) < 64 := by omega
        have l2' : (m2 : Int) < 64 := by omega
        have l3' : (m16 : Int) < 64 := by omega
        have l4' : (m7 : Int) < 64 := by omega
        have e16 : IntKind.i64.wrap (m16 : Int) = m16 := IntWalk.i64_in _ (by omega)
        have e7 : IntKind.i64.wrap (m7 : Int) = m7 := IntWalk.i64_in _ (by omega)
        have n16 : k ≠ m16 := by omega
        have n7 : k ≠ m7 := by omega
        clear at_ hB
        go_wp2_with fail
        go_region_held3 (fun w' => w'.cell? ⟨w.heap.size + 3, m16, none⟩ = some (.int .u32 y16) ∧ w'.cell? ⟨w.heap.size + 3, m7, none⟩ = some (.int .u32 y7) ∧ w'.cell? ⟨w.heap.size + 3, k, none⟩ = some (cellOr w' ⟨w.heap.size + 3, k, none⟩) ∧ w'.frozen? ⟨w.heap.size + 3, k, none⟩ = false)
          (first | (exact ⟨d16, d7, cellOr_some c4, f4⟩) | (exact ⟨cell_off (w := World.drewN wr _) d16 n16 _, cell_off (w := World.drewN wr _) d7 n7 _, cellOr_set (w := World.drewN wr _) c4 _, (World.frozen?_setCell _ _ _ _).trans f4⟩))
          (first | (go_at_call 22; refine (turned_any _ _ (by decide) (by decide) _).mono ?_; rintro e w' ⟨rfl, m, rfl⟩))
        all_goals
          go_wp2
          go_roundw
          case rel => exact ⟨k + 1, by omega, by go_num, HN, only_as HG1.out rfl rfl rfl rfl⟩
          case measure => simp [intOf]; omega
    · obtain rfl : k = 64 := by omega
      rename World => wA
      have hgA := HG.out
      have sA := hgA.size
      have A0 : Bk 52 wA w.heap.size CH := HB0.out.other hgA (by omega)
      have A1 := Lib.hid (HB1.out.other hgA (by omega))
      have A2 := Lib.hid (HB2.out.other hgA (by omega))
      have hld : (load52 (.pointer (some ⟨w.heap.size, 0, none⟩))).run Tryd.prog wA = .ok (.agg CH) wA := by
        have := run_load52 wA w.heap.size 0 CH.toList (by simpa using HSH.out) A0.range
        simpa using this
      have V0 : Bk 52 (wA.alloc (.cells z52 52)) wA.heap.size z52 := Bk.new 52 wA z52
      obtain ⟨w5, hst, V1, hg5, hs5⟩ := V0.store_whole (ty := 52) CH (by rw [HSH.out, z52_size]) (by rw [HSH.out]; exact size52) (by rw [HCH.out]; exact nums_one .u32 H)
      have hst' : (store52 (.pointer (some ⟨wA.heap.size, 0, none⟩)) (.agg CH)).run Tryd.prog (wA.alloc (.cells z52 52)) = .ok () w5 := hst
      have s5 : wA.heap.size < w5.heap.size := V1.lt
      have W5 : Bk 50 w5 (w.heap.size + 3) (nums .u32 (wl bs 64)).toArray := by
        have := HW.out
        rw [wz_full] at this
        exact (this.alloc (.cells z52 52)).other hg5 (by omega)
      have K5 : Bk 50 w5 (w.heap.size + 1) CK := (A1.out.alloc (.cells z52 52)).other hg5 (by omega)
      have H5 := Lib.hid ((A0.alloc (.cells z52 52)).other hg5 (by omega))
      have R5 := Lib.hid ((A2.out.alloc (.cells z52 52)).other hg5 (by omega))
      have W5 := Lib.hid W5
      have K5 := Lib.hid K5
      have HV : Hid (Bk 52 w5 wA.heap.size (nums .u32 (vl K (wl bs 64) H 0)).toArray) := by rw [← show CH = (nums .u32 (vl K (wl bs 64) H 0)).toArray from HCH.out]; exact V1
      have q5 : Below w.heap.size w w5 := ((q4.grown hgA q4.size (fun j hj => by injection hj with hj; omega)).alloc (by omega) (.cells z52 52)).trans (below_of_grown hg5 (by omega) (by simp; omega))
      clear hst A1 A2 HG HW V0 V1 hg5 A0 hs5
      go_wp2_with fail
      clear hst' hld hgA
      go_loopw [12, 13, 14, 15, 16] (fun i _ _ _ _ wr => ∃ k : Nat, k ≤ 64 ∧ i = .int .i64 k ∧ Hid (Bk 52 wr wA.heap.size (nums .u32 (vl K (wl bs 64) H k)).toArray) ∧ Hid (w5.grownBy wr (some wA.heap.size))) (fun i _ _ _ _ _ => 64 - (intOf i).toNat)
      case atStart => exact ⟨0, by omega, rfl, HV, World.grownBy.refl _ _⟩
      case round =>
        clear HV
        obtain ⟨k, hk, rfl, HV, HG⟩ := hrel
        have hvl := vl_length K (wl bs 64) HLH.out k
        have vat : ∀ i, i < 8 → wr.cell? ⟨wA.heap.size, i, none⟩ = some (.int .u32 ((vl K (wl bs 64) H k).getD i 0)) := fun i hi => by
          rw [HV.out.cell, nums_at _ _ _ (by omega)]
        by_cases hlt : k < 64
        · have kat : wr.cell? ⟨w.heap.size + 1, k, none⟩ = some (.int .u32 (K.getD k 0)) := by
            rw [(K5.out.other HG.out (by omega)).cell, HCK.out, nums_at _ _ _ (by have := HLK.out; omega)]
          have wat : wr.cell? ⟨w.heap.size + 3, k, none⟩ = some (.int .u32 ((wl bs 64).getD k 0)) := by
            rw [(W5.out.other HG.out (by omega)).cell, nums_at _ _ _ (by rw [wl_length]; omega)]
          have v0 := vat 0 (by omega)
          have v1 := vat 1 (by omega)
          have v2 := vat 2 (by omega)
          have v3 := vat 3 (by omega)
          have v4 := vat 4 (by omega)
          have v5 := vat 5 (by omega)
          have v6 := vat 6 (by omega)
          have v7 := vat 7 (by omega)
          clear vat
          obtain ⟨F, hst, hF⟩ := store52_any (vl K (wl bs 64) H k) hvl HV.out HG.out
          have HEND : Hid (vl K (wl bs 64) H (k + 1) = rnd (vl K (wl bs 64) H k) (K.getD k 0) ((wl bs 64).getD k 0)) := rfl
          have HFB := Lib.hid hF
          clear hF
          unfold rnd at HEND
          generalize (vl K (wl bs 64) H k).getD 0 0 = x0 at *
          generalize (vl K (wl bs 64) H k).getD 1 0 = x1 at *
          generalize (vl K (wl bs 64) H k).getD 2 0 = x2 at *
          generalize (vl K (wl bs 64) H k).getD 3 0 = x3 at *
          generalize (vl K (wl bs 64) H k).getD 4 0 = x4 at *
          generalize (vl K (wl bs 64) H k).getD 5 0 = x5 at *
          generalize (vl K (wl bs 64) H k).getD 6 0 = x6 at *
          generalize (vl K (wl bs 64) H k).getD 7 0 = x7 at *
          generalize K.getD k 0 = kk at *
          generalize (wl bs 64).getD k 0 = ww at *
          have hne : wA.heap.size ≠ w.heap.size := by omega
          go_wp2_with fail
          go_quiet ((go_at_call 22; exact Calls.quiet_of (turned_any _ _ (by decide) (by decide) _)))
          go_wp2
          go_quiet ((go_at_call 22; first | exact Calls.quiet_of (turned_any _ _ (by decide) (by decide) _) | exact quiet_add (turned_any _ _ (by decide) (by decide) _)))
          go_wp2
          go_roundw
          case rel =>
            have HE2 : ∀ W1, Bk 52 W1 wA.heap.size (nums .u32 [(oneW x4 x5 x6 x7 kk ww + twoW x0 x1 x2) % 4294967296, x0, x1, x2, (x3 + oneW x4 x5 x6 x7 kk ww) % 4294967296, x4, x5, x6]).toArray → Hid (Bk 52 W1 wA.heap.size (nums .u32 (vl K (wl bs 64) H (k + 1))).toArray) := fun W1 h => by
              show Bk _ _ _ _
              rw [HEND.out]
              exact h
            first
            | exact ⟨k + 1, by omega, by go_num, HE2 _ (HFB.out _ _ _).1, (HFB.out _ _ _).2⟩
            | ((repeat apply Exists.intro); exact ⟨⟨k + 1, by omega, by go_num, HE2 _ (HFB.out _ _ _).1, (HFB.out _ _ _).2⟩, rfl⟩)
          case measure => simp [intOf]; omega
        · obtain rfl : k = 64 := by omega
          rename World => wC
          have hgC := HG.out
          have sC := hgC.size
          have hne : w.heap.size ≠ wA.heap.size := by omega
          have C0 : Hid (Bk 52 wC w.heap.size (nums .u32 (fl (vl K (wl bs 64) H 64) H 0)).toArray) := by
            rw [← show CH = (nums .u32 (fl (vl K (wl bs 64) H 64) H 0)).toArray from HCH.out]
            exact H5.out.other hgC (by omega)
          have C2 := Lib.hid (R5.out.other hgC (by omega))
          have CV := HV
          have qC : Below w.heap.size w wC := q5.grown hgC q5.size (fun j hj => by injection hj with hj; omega)
          have HVL := Lib.hid (vl_length K (wl bs 64) HLH.out 64)
          generalize hVE : vl K (wl bs 64) H 64 = V at *
          have HVE := Lib.hid hVE
          clear hVE HG HV vat W5 K5 hvl hgC
          go_wp2_with fail
          go_loopw [17] (fun i wr => ∃ k : Nat, k ≤ 8 ∧ i = .int .i64 k ∧ Hid (Bk 52 wr w.heap.size (nums .u32 (fl V H k)).toArray) ∧ Hid (wC.grownBy wr (some w.heap.size))) (fun i _ => 8 - (intOf i).toNat)
          case atStart => exact ⟨0, by omega, rfl, C0, World.grownBy.refl _ _⟩
          case round =>
            clear C0
            obtain ⟨k, hk, rfl, H0, HG⟩ := hrel
            have hfl := fl_length V H k
            rw [HLH.out] at hfl
            by_cases hlt : k < 8
            · have h0 : wr.cell? ⟨w.heap.size, k, none⟩ = some (.int .u32 ((fl V H k).getD k 0)) := by
                rw [H0.out.cell, nums_at _ _ _ (by omega)]
              have v0 : wr.cell? ⟨wA.heap.size, k, none⟩ = some (.int .u32 (V.getD k 0)) := by
                rw [(CV.out.other HG.out (by omega)).cell, nums_at _ _ _ (by have := HVL.out; omega)]
              have f0 : wr.frozen? ⟨w.heap.size, k, none⟩ = false := H0.out.frozen k
              have HN : Hid (Bk 52 (wr.setCell ⟨w.heap.size, k, none⟩ (.int .u32 (((fl V H k).getD k 0 + V.getD k 0) % 4294967296))) w.heap.size (nums .u32 (fl V H (k + 1))).toArray) := by
                have := H0.out.set k (.int .u32 (((fl V H k).getD k 0 + V.getD k 0) % 4294967296))
                rw [set_nums] at this
                exact this
              have HG1 := only_set HG.out k (.int .u32 (((fl V H k).getD k 0 + V.getD k 0) % 4294967296))
              have HG2 := Lib.hid HG1
              generalize (fl V H k).getD k 0 = y0 at *
              generalize V.getD k 0 = y1 at *
              clear HG1 hfl
              go_wp2_with fail
              go_region
              go_wp2
              go_roundw
              case rel => exact ⟨k + 1, by omega, by go_num, HN, only_as HG2.out rfl rfl rfl rfl⟩
              case measure => simp [intOf]; omega
            · obtain rfl : k = 8 := by omega
              rename World => wD
              have hgD := HG.out
              have sD := hgD.size
              have D2 : Bk 52 wD (w.heap.size + 2) z52 := C2.out.other hgD (by omega)
              have hl8 : (nums .u32 (fl V H 8)).length = 8 := by rw [nums_length]; exact hfl
              have hld : (load52 (.pointer (some ⟨w.heap.size, 0, none⟩))).run Tryd.prog wD = .ok (.agg (nums .u32 (fl V H 8)).toArray) wD := by
                have := run_load52 wD w.heap.size 0 (nums .u32 (fl V H 8)).toArray.toList (by simpa using hl8) H0.out.range
                simpa using this
              obtain ⟨w7, hst0, V7, hg7, hs7⟩ := D2.store_whole (ty := 52) (nums .u32 (fl V H 8)).toArray (by rw [z52_size]; simpa using hl8) (size52' _ (by simpa using hl8)) (nums_one .u32 _)
              have hst : (store52 (.pointer (some ⟨w.heap.size + 2, 0, none⟩)) (.agg (nums .u32 (fl V H 8)).toArray)).run Tryd.prog wD = .ok () w7 := hst0
              have q7 : Below w.heap.size w w7 := (qC.grown hgD qC.size (fun j hj => by injection hj with hj; omega)).trans (below_of_grown hg7 (by omega) (by omega))
              have HV7 := Lib.hid V7
              generalize hRR : (nums .u32 (fl V H 8)).toArray = RR at *
              have HRR := Lib.hid hRR
              have HR8 : Hid (RR.size = 8) := by show _ = _; rw [← hRR]; simpa using hl8
              clear hst0 V7 hg7 hs7 hgD D2 hl8 hfl H0 HG hRR
              go_wp2_with fail
              exact bodyPost_ret (v := .agg RR) (results_cell_row Tryd.results20 _ _ (w.heap.size + 2) 52 RR (0, 0) _ rfl HV7.out Tryd.underlying52 rfl (size52' _ HR8.out)) rfl ⟨by rw [HVE.out, HRR.out], q7⟩
end Go.Proofs.YtikoahjnhdnhdaaDoor
