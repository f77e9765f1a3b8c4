/- CONTRACT of (*hash.Hash).Sum: the digest of the bytes that the state stands for. -/
import Derived.Test.YtikoahjnhdnhdaaDoorNew
import Derived.Test.YtikoahjnhdnhdaaDoorPad
namespace Go.Proofs.YtikoahjnhdnhdaaDoor
open Go.ChangeShapes Go.WideShapes Go.ChangeAt Go.RowKit Go.Proofs.YtikoahjnhdnhdaaDoorW.PrintWords Go.Deep
set_option linter.unusedVariables false
set_option linter.unusedSimpArgs false

/-- The digest of a message. -/
def shaF (m : List Int) : List Int := digL (sumW (blkF RL) H0 m)
theorem shaF_length (m : List Int) : (shaF m).length = 32 := digL_length _

@[irreducible] def mk128 : Array Value := madeCells #[.int .u8 0] 128
theorem make128 (W : World) : (Instr.makeSlice 25 (.int .i64 1) (.int .i64 128)).run Tryd.prog W = .ok (.slice (some ⟨W.heap.size, 0, none⟩) 1 128) (W.alloc (.cells mk128 5)) := by kernel_rfl
theorem at128 (W : World) : (W.alloc (.cells mk128 5)).cell? ⟨W.heap.size, 0, none⟩ = some (.int .u8 0) := by
  rw [cell_of_row _ _ _ _ _ _ (heap_alloc_new W _)]
  unfold mk128
  kernel_rfl
theorem own128 (W : World) : (W.alloc (.cells (mk128.setIfInBounds 0 (.int .u8 128)) 5)).ownsRow W.heap.size 5 1 (.slice (some ⟨W.heap.size, 0, none⟩) 1 128) 1 (nums .u8 (tailZ 1)) :=
  ⟨rfl, .inr ⟨W.heap.size, 128, mk128.setIfInBounds 0 (.int .u8 128), rfl, Nat.le_refl _, heap_alloc_new W _, by simp, by simp [maxLen], by unfold mk128; simp [size_madeCells], by unfold mk128; kernel_rfl⟩⟩

attribute [local go_sem ↓] loadAt_57 storeAt_57 alloc_57 loadAt_23 storeAt_23 alloc_23 build_23 loadAt_52
attribute [local go_sem] run_alloc57 run_alloc23 run_build23

set_option maxRecDepth 100000 in
set_option maxHeartbeats 2000000 in
theorem sum_any (m : List Int) (g : Nat) (w : World) (T : Tabs w) (S : Hs w g m) (hg : 0 < g) (hmax : m.length ≤ 1152921504606846976) :
    Calls Tryd.prog 15 #[.pointer (some ⟨g, 0, none⟩)] w fun e w' => e = .returned (.agg (nums .u8 (shaF m)).toArray) ∧ Below w.heap.size w w' := by
  obtain ⟨us, rest, S, H⟩ := S
  have hgl := S.blk.lt
  have S1 : St (w.alloc (.cells z23 23)) g us rest (m.length : Int) := S.below ((Below.refl _ _).alloc (Nat.le_refl _) _)
  have hld := S1.load
  have V0 : Bk 57 ((w.alloc (.cells z23 23)).alloc (.cells z57 57)) (w.heap.size + 1) z57 := by have := Bk.new 57 (w.alloc (.cells z23 23)) z57; simpa using this
  have R0 : Bk 23 ((w.alloc (.cells z23 23)).alloc (.cells z57 57)) w.heap.size z23 := (Bk.new 23 w z23).alloc _
  obtain ⟨w2, hst0, V1, g2, hs2⟩ := V0.store_whole (ty := 57) (hcs us rest (m.length : Int)) (by rw [z57_size, hcs_size _ S.hl S.rl]) (by rw [hcs_size _ S.hl S.rl]; exact size57) (hcs_one _ _ _)
  have hst : (store57 (.pointer (some ⟨w.heap.size + 1, 0, none⟩)) (.agg (hcs us rest (m.length : Int)))).run Tryd.prog ((w.alloc (.cells z23 23)).alloc (.cells z57 57)) = .ok () w2 := hst0
  have hz2 : w2.heap.size = w.heap.size + 2 := by rw [hs2]; simp
  have S2 : St w2 g us rest (m.length : Int) := (S1.below ((Below.refl _ _).alloc (Nat.le_refl _) (.cells z57 57))).other g2 (by omega)
  have R2 : Bk 23 w2 w.heap.size z23 := R0.other g2 (by omega)
  have HC : Hs w2 (w.heap.size + 1) m := ⟨us, rest, ⟨V1, S.hl, S.rl⟩, H⟩
  have q2 : Below w.heap.size w w2 := (((Below.refl _ _).alloc (Nat.le_refl _) (.cells z23 23)).alloc (by simp) (.cells z57 57)).trans (below_of_grown g2 (by omega) (by simp; omega))
  have hn2 := S2.n_at
  generalize hN : m.length = N at *
  have hNm : (N : Int) ≤ 1152921504606846976 := by omega
  have e64 : IntKind.u64.wrap (N : Int) = N := by simp [IntKind.wrap, IntKind.bits, IntKind.signed]; omega
  have e8 : IntKind.u64.wrap (8 * (N : Int)) = 8 * N := by simp [IntKind.wrap, IntKind.bits, IntKind.signed]; omega
  -- the tail's first byte
  have HO4 := Lib.hid (own128 w2)
  have t0 := at128 w2
  have t1 : (w2.alloc (.cells mk128 5)).frozen? ⟨w2.heap.size, 0, none⟩ = false := blk_frozen (heap_alloc_new w2 _) 0
  have q4 : Below w2.heap.size w2 (w2.alloc (.cells (mk128.setIfInBounds 0 (.int .u8 128)) 5)) := (Below.refl _ _).alloc (Nat.le_refl _) _
  have HQ4 := Lib.hid q4
  have HS2 := Lib.hid S2
  have HR2 := Lib.hid R2
  have HHC := Lib.hid HC
  have HZ2 := Lib.hid hz2
  have HN := Lib.hid hN
  have HT2 := Lib.hid (T.below q2)
  have HH := Lib.hid H
  have hmk := make128
  clear S S1 V0 R0 hst0 V1 g2 hs2 hz2 S2 R2 HC q4 hN T H
  generalize hcs us rest (N : Int) = C at *
  go_enter Tryd.func15, Tryd.ntmps15
  go_wp2_with fail
  go_loopw [5] (fun v wr => ∃ (l : Nat) (A : Option Addr) (c : Nat), 1 ≤ l ∧ l ≤ 1 + zerosOf N ∧ v = .slice A l c ∧ Hid (wr.ownsRow w2.heap.size 5 1 (.slice A l c) l (nums .u8 (tailZ l))) ∧ Below w2.heap.size w2 wr) (fun v _ => match v with | .slice _ l _ => 1000 - l | _ => 0)
  case atStart => exact ⟨1, _, _, Nat.le_refl _, by omega, rfl, HO4, HQ4.out⟩
  case round =>
    clear HO4 HQ4
    obtain ⟨l, A, c, hl1, hl2, rfl, HO, hB⟩ := hrel
    have hzl := zeros_lt N
    have hn3 : wr.cell? ⟨g, 72, none⟩ = some (.int .i64 (N : Int)) := (hB.cell (p := ⟨g, 72, none⟩) (show g < w2.heap.size by have := HZ2.out; omega)).trans hn2
    by_cases hlt : l < 1 + zerosOf N
    · have hz : (((N : Int) + (l : Int)) % 64 == 56) = false := by
        rw [beq_eq_false_iff_ne]
        have := zeros_more N l hl1 hlt
        omega
      have hz' : (((N : Int) + (l : Int)) % 64 != 56) = true := by simp [bne, hz]
      have hbs := hB.size
      have htl := tailZ_length l hl1
      have HO' : wr.ownsRow w2.heap.size 5 1 (.slice A l c) (tailZ l).length (nums .u8 (tailZ l)) := by rw [htl]; exact HO.out
      have HTS := Lib.hid (tailZ_succ l hl1)
      have HTL := Lib.hid htl
      clear htl
      have hl3 : l ≤ 100 := by omega
      go_wp2_with (at_builtin; refine print_append_num w2.heap.size rfl _ _ 25 5 .u8 1 rfl Tryd.underlying25 info5 (by decide) (.slice A l c) (tailZ l) 0 rfl rfl HO' hB hbs (by rw [HTL.out]; omega) ?_; intro v1 w3 HO3 HB3 hg3 hp3)
      have HO4 : Hid (w3.ownsRow w2.heap.size 5 1 v1 (l + 1) (nums .u8 (tailZ (l + 1)))) := by
        show World.ownsRow _ _ _ _ _ _ _
        rw [HTS.out]
        rw [List.length_append, HTL.out] at HO3
        exact HO3
      obtain ⟨A1, c1, rfl⟩ := own_slice HO4.out
      clear HO3 HO' hg3 hp3
      go_wp2
      go_roundw
      case rel => exact ⟨l + 1, A1, c1, by omega, by omega, rfl, HO4, HB3⟩
      case measure => simp; omega
    · obtain rfl : l = 1 + zerosOf N := by omega
      have HTL := Lib.hid (tailZ_length (1 + zerosOf N) (by omega))
      have hze := zeros_end N
      have hl3 : 1 + zerosOf N ≤ 100 := by omega
      generalize hll : 1 + zerosOf N = l at *
      have hz : (((N : Int) + (l : Int)) % 64 == 56) = true := by rw [beq_iff_eq]; omega
      have hz' : (((N : Int) + (l : Int)) % 64 != 56) = false := by simp [bne, hz]
      clear hze
      have HLL := Lib.hid hll
      clear hll hl1
      rename World => w4
      go_wp2_with fail
      go_loopw [5, 6] (fun v i wr => ∃ (k : Nat) (A : Option Addr) (c : Nat), k ≤ 8 ∧ v = .slice A (l + k) c ∧ i = .int .i64 (56 - 8 * (k : Int)) ∧ Hid (wr.ownsRow w2.heap.size 5 1 (.slice A (l + k) c) (l + k) (nums .u8 (tailZ l ++ lenB N k))) ∧ Below w2.heap.size w2 wr) (fun _ i _ => (intOf i + 8).toNat)
      case atStart => exact ⟨0, A, c, by omega, rfl, rfl, by show World.ownsRow _ _ _ _ _ _ _; simpa [lenB] using HO.out, hB⟩
      case round =>
        clear HO hB hn3 hz hz'
        obtain ⟨k, A, c, hk, rfl, rfl, HO, hB⟩ := hrel
        have hbs := hB.size
        by_cases hlt : k < 8
        · have htl : (tailZ l ++ lenB N k).length = l + k := by rw [List.length_append, HTL.out, lenB_length]
          have HO' : wr.ownsRow w2.heap.size 5 1 (.slice A (l + k) c) (tailZ l ++ lenB N k).length (nums .u8 (tailZ l ++ lenB N k)) := by rw [htl]; exact HO.out
          have HTL2 := Lib.hid htl
          have HTS : Hid (tailZ l ++ lenB N (k + 1) = (tailZ l ++ lenB N k) ++ [byteN N k]) := by show _ = _; rw [lenB_succ, List.append_assoc]
          have h56 : (0 : Int) ≤ 56 - 8 * (k : Int) := by omega
          have hto : ((56 : Int) - 8 * (k : Int)).toNat = 56 - 8 * k := by omega
          have hmin : min (56 - 8 * k) 64 = 56 - 8 * k := by omega
          clear htl
          go_wp2_with (at_builtin; refine print_append_num w2.heap.size rfl _ _ 25 5 .u8 1 rfl Tryd.underlying25 info5 (by decide) (.slice A (l + k) c) (tailZ l ++ lenB N k) (byteN N k) rfl rfl HO' hB hbs (by rw [HTL2.out]; omega) ?_; intro v1 w3 HO3 HB3 hg3 hp3)
          have HO4 : Hid (w3.ownsRow w2.heap.size 5 1 v1 (l + (k + 1)) (nums .u8 (tailZ l ++ lenB N (k + 1)))) := by
            show World.ownsRow _ _ _ _ _ _ _
            rw [HTS.out]
            rw [List.length_append, HTL2.out] at HO3
            exact HO3
          obtain ⟨A1, c1, rfl⟩ := own_slice HO4.out
          clear HO3 HO' hg3 hp3
          go_wp2
          go_roundw
          case rel => exact ⟨k + 1, A1, c1, by omega, rfl, by simp; omega, HO4, HB3⟩
          case measure => simp [intOf]; omega
        · obtain rfl : k = 8 := by omega
          have hneg : ¬ (0 : Int) ≤ 56 - 8 * ((8 : Nat) : Int) := by omega
          have hcap : l + 8 ≤ c := own_le HO.out
          have htail : tailZ l ++ lenB N 8 = tailL N := by unfold tailL; rw [HLL.out]
          have hsrc : Src wr (w.heap.size + 1) A (l + 8) (tailL N) := by
            rw [← htail]
            refine ⟨own_reads' HO.out, fun ad he => ?_⟩
            subst he
            have := own_base HO.out ad.block rfl
            have := HZ2.out
            omega
          have h14 := write_any m (tailL N) (w.heap.size + 1) A (l + 8) c wr (HT2.out.below hB) (HHC.out.below hB) (by omega) hsrc hcap (by rw [HN.out]; omega)
          have H14 := Lib.hid h14
          have HRr : Hid (Bk 23 wr w.heap.size z23) := HR2.out.below hB
          have qr : Below w.heap.size w wr := q2.trans (hB.mono q2.size)
          clear h14 hsrc htail HO hB
          go_wp2_with fail
          refine H14.out.mono ?_
          rintro e w5 ⟨rfl, S5, G5⟩
          obtain ⟨us5, rest5, S5, H5⟩ := S5
          have hus : us5 = sumW (blkF RL) H0 m := by
            have h1 := H5
            rw [← HN.out] at h1
            exact Held.all h1
          have R5 : Bk 23 w5 w.heap.size z23 := HRr.out.other G5 (by omega)
          have hrl : w.heap.size + 1 < w5.heap.size := S5.blk.lt
          have q5 : Below w.heap.size w w5 := qr.grown G5 qr.size (fun j hj => by injection hj with hj; omega)
          have S6 : St (w5.alloc (.cells z23 23)) (w.heap.size + 1) us5 rest5 _ := S5.below ((Below.refl _ _).alloc (Nat.le_refl _) _)
          have hl52 := S6.load_h
          have B6 : Hid (Bk 23 (w5.alloc (.cells z23 23)) w5.heap.size (nums .u8 (digZ us5 (4 * 0))).toArray) := by
            have h1 := Bk.new 23 w5 z23
            show Bk _ _ _ _
            rw [Nat.mul_zero, digZ_zero]
            have e : (nums .u8 (List.replicate 32 0)).toArray = z23 := by unfold z23; rfl
            rw [e]
            exact h1
          have h8 := S5.hl
          have HUS := Lib.hid hus
          have H8 := Lib.hid h8
          have HR5 := Lib.hid R5
          clear hus h8 S5 H5 S6 R5 G5 H14 HRr
          generalize hCU : (nums .u32 us5).toArray = CU at *
          have HCU := Lib.hid hCU
          clear hCU
          go_wp2_with fail
          clear hl52
          go_loopw [8, 9, 52] (fun _ _ i wr => ∃ k : Nat, k ≤ 8 ∧ i = .int .i64 k ∧ Hid (Bk 23 wr w5.heap.size (nums .u8 (digZ us5 (4 * k))).toArray) ∧ Below w5.heap.size w5 wr) (fun _ _ i _ => 8 - (intOf i).toNat)
          case atStart => exact ⟨0, by omega, rfl, B6, (Below.refl _ _).alloc (Nat.le_refl _) _⟩
          case round =>
            clear B6
            obtain ⟨k, hk, rfl, HD, hB⟩ := hrel
            by_cases hlt : k < 8
            · have hix := fun W => run_index52 CU k (.int .u32 (us5.getD k 0)) hlt (by rw [← HCU.out]; exact nums_at _ _ _ (by rw [H8.out]; exact hlt)) W
              have hdl := digZ_length us5 (4 * k) (by omega)
              have d0 : wr.cell? ⟨w5.heap.size, 4 * k, none⟩ = some (.int .u8 ((digZ us5 (4 * k)).getD (4 * k) 0)) := by rw [HD.out.cell, nums_at _ _ _ (by omega)]
              have d1 : wr.cell? ⟨w5.heap.size, 4 * k + 1, none⟩ = some (.int .u8 ((digZ us5 (4 * k)).getD (4 * k + 1) 0)) := by rw [HD.out.cell, nums_at _ _ _ (by omega)]
              have d2 : wr.cell? ⟨w5.heap.size, 4 * k + 2, none⟩ = some (.int .u8 ((digZ us5 (4 * k)).getD (4 * k + 2) 0)) := by rw [HD.out.cell, nums_at _ _ _ (by omega)]
              have d3 : wr.cell? ⟨w5.heap.size, 4 * k + 3, none⟩ = some (.int .u8 ((digZ us5 (4 * k)).getD (4 * k + 3) 0)) := by rw [HD.out.cell, nums_at _ _ _ (by omega)]
              have f0 := HD.out.frozen (4 * k)
              have f1 := HD.out.frozen (4 * k + 1)
              have f2 := HD.out.frozen (4 * k + 2)
              have f3 := HD.out.frozen (4 * k + 3)
              generalize (digZ us5 (4 * k)).getD (4 * k) 0 = y0 at *
              generalize (digZ us5 (4 * k)).getD (4 * k + 1) 0 = y1 at *
              generalize (digZ us5 (4 * k)).getD (4 * k + 2) 0 = y2 at *
              generalize (digZ us5 (4 * k)).getD (4 * k + 3) 0 = y3 at *
              have HSTEP : ∀ x, us5.getD k 0 = x → Hid (Bk 23 ((((wr.setCell ⟨w5.heap.size, 4 * k, none⟩ (.int .u8 (x / 16777216 % 256))).setCell ⟨w5.heap.size, 4 * k + 1, none⟩ (.int .u8 (x / 65536 % 256))).setCell ⟨w5.heap.size, 4 * k + 2, none⟩ (.int .u8 (x / 256 % 256))).setCell ⟨w5.heap.size, 4 * k + 3, none⟩ (.int .u8 (x % 256))) w5.heap.size (nums .u8 (digZ us5 (4 * (k + 1)))).toArray) := fun x hx => by
                have h1 := (((HD.out.set (4 * k) (.int .u8 (x / 16777216 % 256))).set (4 * k + 1) (.int .u8 (x / 65536 % 256))).set (4 * k + 2) (.int .u8 (x / 256 % 256))).set (4 * k + 3) (.int .u8 (x % 256))
                rw [set_nums, set_nums, set_nums, set_nums, digZ_four us5 k hlt x hx] at h1
                exact h1
              have HB4 : ∀ u0 u1 u2 u3 : Value, Below w5.heap.size w5 ((((wr.setCell ⟨w5.heap.size, 4 * k, none⟩ u0).setCell ⟨w5.heap.size, 4 * k + 1, none⟩ u1).setCell ⟨w5.heap.size, 4 * k + 2, none⟩ u2).setCell ⟨w5.heap.size, 4 * k + 3, none⟩ u3) := fun u0 u1 u2 u3 => (((hB.setCell (Nat.le_refl _) u0).setCell (Nat.le_refl _) u1).setCell (Nat.le_refl _) u2).setCell (Nat.le_refl _) u3
              have HS4 := Lib.hid (HSTEP _ rfl)
              have HBB := Lib.hid HB4
              clear HSTEP HB4 hdl
              generalize us5.getD k 0 = x at *
              go_wp2_with fail
              go_roundw
              case rel => exact ⟨k + 1, by omega, by go_num, HS4.out, HBB.out _ _ _ _⟩
              case measure => simp [intOf]; omega
            · obtain rfl : k = 8 := by omega
              have HE : Hid (digZ us5 (4 * 8) = shaF m) := by
                show _ = _
                unfold shaF
                rw [digZ_full, HUS.out]
              have hD := HD.out
              rw [HE.out] at hD
              have hl32 : (nums .u8 (shaF m)).toArray.size = 32 := by simp [nums, shaF_length]
              have hld2 : (load23 (.pointer (some ⟨w5.heap.size, 0, none⟩))).run Tryd.prog wr = .ok (.agg (nums .u8 (shaF m)).toArray) wr :=
                run_load23 wr w5.heap.size 0 (nums .u8 (shaF m)) (by rw [nums_length, shaF_length]) hD.range
              have RR : Bk 23 wr w.heap.size z23 := (hB.block _ (by omega)).trans HR5.out
              obtain ⟨w7, hst7, V7, g7, hs7⟩ := RR.store_whole (ty := 23) (nums .u8 (shaF m)).toArray (by rw [hl32, z23_size]) (by rw [hl32]; exact size23) (nums_one .u8 _)
              have hst8 : (store23 (.pointer (some ⟨w.heap.size, 0, none⟩)) (.agg (nums .u8 (shaF m)).toArray)).run Tryd.prog wr = .ok () w7 := hst7
              have q7 : Below w.heap.size w w7 := (q5.trans (hB.mono q5.size)).trans (below_of_grown g7 (Nat.le_refl _) (by have := hB.size; omega))
              have HV7 := Lib.hid V7
              have HL32 := Lib.hid hl32
              generalize hGR : (nums .u8 (shaF m)).toArray = GR at *
              have HGR := Lib.hid hGR
              clear hst7 V7 g7 hs7 RR hD HD hGR hl32
              go_wp2_with fail
              exact bodyPost_ret (v := .agg GR) (results_cell_row Tryd.results15 _ _ w.heap.size 23 GR (0, 0) _ rfl HV7.out Tryd.underlying23 rfl (by rw [HL32.out]; exact size23)) rfl ⟨by rw [HGR.out], q7⟩
end Go.Proofs.YtikoahjnhdnhdaaDoor
