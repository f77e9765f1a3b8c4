/- THE WALK of 'scruplelaw02.HashSums': it returns true for all messages, over a world that holds the table of the rounds. -/
import Derived.Test.YtikoahjnhdnhdaaDoorRSum
import Derived.Test.YtikoahjnhdnhdaaDoorOpenS
namespace Go.Proofs.YtikoahjnhdnhdaaDoor.hashSums
open Go.ChangeShapes Go.WideShapes Go.ChangeAt Go.RowKit Go.Proofs.YtikoahjnhdnhdaaDoorW.PrintWords Go.Deep Go.Proofs.YtikoahjnhdnhdaaDoor
set_option linter.unusedVariables false
set_option linter.unusedSimpArgs false

attribute [local go_sem ↓] loadAt_23 storeAt_23 alloc_23
attribute [local go_sem] run_alloc23

set_option maxRecDepth 100000 in
set_option maxHeartbeats 2000000 in
theorem good (a : Option Addr) (len cap b o : Nat) (ss : List ByteArray) (w : World) (T : Tabs w) (hc : At1 w a len b o (fun i => .string (ss.getD i ByteArray.empty))) (hz : ∀ i, i < len → (ss.getD i ByteArray.empty).size ≤ 140737488351232) (hm : len * 16 ≤ 140737488351232) :
    Calls Tryd.prog 3 #[.slice a len cap] w fun e w' => e = .returned (.bool true) ∧ Below w.heap.size w w' := by
  have h7 := hsum_any [] none 0 0 w T (In.nil w) (by omega)
  have h8 := fun W => rsum_any [] none 0 0 W (In.nil W) (by omega)
  have heq := fun W => eq23 (shaF []) (shaF_length _) W
  generalize (nums .u8 (shaF [])).toArray = GN at *
  have HT := Lib.hid T
  have HC := Lib.hid hc
  have HZ := Lib.hid hz
  have H7 := Lib.hid h7
  have H8 := Lib.hid h8
  clear T hc hz h7 h8
  go_enter Tryd.func3, Tryd.ntmps3
  go_wp2_with fail
  refine H7.out.mono ?_
  rintro e w1 ⟨rfl, b1⟩
  go_wp2_with fail
  refine (H8.out _).mono ?_
  rintro e w2 ⟨rfl, b2⟩
  have q2 : Below w.heap.size w w2 := b1.trans (b2.mono b1.size)
  go_wp2_with fail
  clear heq H7 H8 b1 b2
  go_loopw [3, 4, 5, 6] (fun i _ _ _ wr => ∃ k : Nat, k ≤ len ∧ i = .int .i64 k ∧ Below w.heap.size w wr) (fun i _ _ _ _ => len - (intOf i).toNat)
  case atStart => exact ⟨0, by omega, rfl, q2⟩
  case round =>
    obtain ⟨k, hk, rfl, hB⟩ := hrel
    by_cases hlt : k < len
    · obtain ⟨ha, hbw⟩ := HC.out.1 (by omega)
      subst ha
      have hcel : ∀ W, Below w.heap.size w W → W.cell? ⟨b, o + k, none⟩ = some (.string (ss.getD k ByteArray.empty)) := fun W h => (h.cell (p := ⟨b, o + k, none⟩) hbw).trans (HC.out.2 k hlt)
      have hs := HZ.out k hlt
      generalize ss.getD k ByteArray.empty = s at *
      have hc0 := hcel wr hB
      have HCEL := Lib.hid hcel
      have HS := Lib.hid hs
      have hbl := bytesOf_length s
      have HBL := Lib.hid hbl
      have H9 := Lib.hid (fun W => lent_any s W hs)
      have HSTL := Lib.hid (fun g W R => still_any s g W hs R)
      have heq := fun W => eq23 (shaF (bytesOf s)) (shaF_length _) W
      have h7 : ∀ W A c, Tabs W → In W A s.size c (bytesOf s) → Calls Tryd.prog 7 #[.slice A s.size c] W fun e w' => e = .returned (.agg (nums .u8 (shaF (bytesOf s))).toArray) ∧ Below W.heap.size W w' := fun W A c T hi => hsum_any (bytesOf s) A s.size c W T hi (by omega)
      have h8 : ∀ W A c, In W A s.size c (bytesOf s) → Calls Tryd.prog 8 #[.slice A s.size c] W fun e w' => e = .returned (.agg (nums .u8 (shaF (bytesOf s))).toArray) ∧ Below W.heap.size W w' := fun W A c hi => rsum_any (bytesOf s) A s.size c W hi hs
      have hG32 : (nums .u8 (shaF (bytesOf s))).toArray.size = 32 := by simp [nums, shaF_length]
      have hG1 := nums_one .u8 (shaF (bytesOf s))
      generalize (nums .u8 (shaF (bytesOf s))).toArray = GD at *
      have HEQ := Lib.hid heq
      have H7 := Lib.hid h7
      have H8 := Lib.hid h8
      have HG32 := Lib.hid hG32
      have HG1 := Lib.hid hG1
      clear hcel hs hbl heq h7 h8 hG32 hG1
      go_wp2_with fail
      refine (H9.out _).mono ?_
      rintro e w1 ⟨g1, rfl, L1⟩
      have q1 : Below w.heap.size w w1 := hB.trans (L1.below.mono hB.size)
      have I1 : In w1 (some ⟨g1, 0, none⟩) s.size (s.size + 70) (bytesOf s) := by
        have h1 := L1.row.lent (by rw [HBL.out]; have := HS.out; omega)
        rw [HBL.out] at h1
        exact h1
      have R1 := Lib.hid L1.row
      have n1 : Hid (wr.heap.size ≤ g1) := L1.new
      have HI1 := Lib.hid I1
      clear L1 I1 hc0
      go_wp2_with fail
      refine (H7.out _ _ _ (HT.out.below q1) HI1.out).mono ?_
      rintro e w2 ⟨rfl, b2⟩
      have q2 : Below w.heap.size w w2 := q1.trans (b2.mono q1.size)
      have R2 : Hid (Row5 w2 g1 (lentL (bytesOf s))) := R1.out.below b2
      obtain ⟨w3, hst, D3, g3, z3⟩ := (Bk.new 23 w2 z23).store_whole (ty := 23) GD (by rw [HG32.out, z23_size]) (by rw [HG32.out]; exact size23) HG1.out
      have hst' : (store23 (.pointer (some ⟨w2.heap.size, 0, none⟩)) (.agg GD)).run Tryd.prog (w2.alloc (.cells z23 23)) = .ok () w3 := hst
      have b3 : Below w2.heap.size w2 w3 := ((Below.refl _ _).alloc (Nat.le_refl _) (.cells z23 23)).trans (below_of_grown g3 (Nat.le_refl _) (by simp))
      have q3 : Below w.heap.size w w3 := q2.trans (b3.mono q2.size)
      have R3 : Hid (Row5 w3 g1 (lentL (bytesOf s))) := R2.out.below b3
      have hl23 : ∀ W, Below w3.heap.size w3 W → (load23 (.pointer (some ⟨w2.heap.size, 0, none⟩))).run Tryd.prog W = .ok (.agg GD) W := fun W h => by
        have h1 := run_load23 W w2.heap.size 0 GD.toList (by rw [Array.length_toList]; exact HG32.out) (D3.below h).range
        simpa using h1
      have HL23 := Lib.hid hl23
      have lda := hl23 _ (keep_drew1 w3)
      have ldb := hl23 _ (keep_bytes (keep_drew1 w3) s)
      have cea := HCEL.out _ (q3.trans ((keep_drew1 w3).mono q3.size))
      have ceb := HCEL.out _ (q3.trans ((keep_bytes (keep_drew1 w3) s).mono q3.size))
      have kb := fun (W : World) => print_bytes (P := Tryd.prog) 9 25 5 Tryd.underlying9 Tryd.underlying25 Tryd.underlying5 s W
      have hib := Lib.hid (bytes_in w3.drew s (by have := HS.out; omega))
      have heqi := HEQ.out
      have hg12 : g1 < w2.heap.size := R2.out.lt
      have HD3 := Lib.hid D3
      clear hst D3 g3 z3 b2 hl23 R1 R2 HI1
      go_wp2_with fail
      go_region_with (first
        | (go_at_call 8; refine (H8.out _ _ _ hib.out).mono ?_; rintro e wx ⟨rfl, bx⟩; have BX : Below w3.heap.size w3 wx := keep_call bx (keep_bytes (keep_drew1 w3) s); have ldx := HL23.out _ BX; have cex := HCEL.out _ (q3.trans (BX.mono q3.size)))
        | (go_at_call 10; refine (HSTL.out g1 _ (R3.out.below BX)).mono ?_; rintro e wy ⟨rfl, rfl⟩))
      all_goals
        have qx : Below w.heap.size w wx := q3.trans (BX.mono q3.size)
        have Rx : Hid (Row5 wx g1 (lentL (bytesOf s))) := R3.out.below BX
        have Dx : Hid (Bk 23 wx w2.heap.size GD) := HD3.out.below BX
        clear ldx cex lda ldb cea ceb kb hib bx BX HSTL H8 heqi HL23
        go_wp2_with fail
        refine (over_any g1 (s.size + 70) _ _ Rx.out (by rw [lentL_length, HBL.out]) (by have := HS.out; omega)).mono ?_
        rintro e w5 ⟨rfl, G5, z5⟩
        have q5 : Below w.heap.size w w5 := qx.grown G5 qx.size (fun j hj => by injection hj with hj; have := n1.out; have := hB.size; omega)
        have D5 : Hid (Bk 23 w5 w2.heap.size GD) := Dx.out.other G5 (by omega)
        have ce5 := HCEL.out w5 q5
        clear G5 z5 Rx Dx
        go_wp2_with fail
        refine (H9.out _).mono ?_
        rintro e w6 ⟨g2, rfl, L2⟩
        have q6 : Below w.heap.size w w6 := q5.trans (L2.below.mono q5.size)
        have I2 : In w6 (some ⟨g2, 0, none⟩) s.size (s.size + 70) (bytesOf s) := by
          have h1 := L2.row.lent (by rw [HBL.out]; have := HS.out; omega)
          rw [HBL.out] at h1
          exact h1
        have hl23 : ∀ W, Below w6.heap.size w6 W → (load23 (.pointer (some ⟨w2.heap.size, 0, none⟩))).run Tryd.prog W = .ok (.agg GD) W := fun W h => by
          have h1 := run_load23 W w2.heap.size 0 GD.toList (by rw [Array.length_toList]; exact HG32.out) ((D5.out.below L2.below).below h).range
          simpa using h1
        have ld6 := hl23 _ (keep_drew1 w6)
        have HL23 := Lib.hid hl23
        have HI2 := Lib.hid (I2.below (keep_drew1 w6))
        have HT6 := Lib.hid (HT.out.below (q6.trans ((keep_drew1 w6).mono q6.size)))
        have heqi := HEQ.out
        clear hl23 I2 L2 ce5
        go_wp2_with fail
        go_region_with (first | (go_at_call 7; refine (H7.out _ _ _ HT6.out HI2.out).mono ?_; rintro e wz ⟨rfl, bz⟩; have BZ : Below w6.heap.size w6 wz := keep_call bz (keep_drew1 w6); have ldz := HL23.out _ BZ))
        all_goals
          have qF : Below w.heap.size w wz := q6.trans (BZ.mono q6.size)
          clear ldz ld6 BZ bz heqi HL23 HI2 HT6 H7
          go_wp2
          go_roundw
          case rel =>
            first
            | exact ⟨k + 1, by omega, by go_num, qF⟩
            | ((repeat apply Exists.intro); exact ⟨⟨k + 1, by omega, by go_num, qF⟩, rfl⟩)
          case measure => simp [intOf]; omega
    · go_wp2_with fail
      go_ret
      exact ⟨rfl, hB⟩

theorem walk {w : World} (a : Option Addr) (len cap b o : Nat) (ss : List ByteArray) (hc : At1 w a len b o (fun i => .string (ss.getD i ByteArray.empty))) (hz : ∀ i, i < len → (ss.getD i ByteArray.empty).size ≤ 140737488351232) (hm : len * 16 ≤ 140737488351232) (T : Tabs w) :
    Calls Tryd.prog 3 #[.slice a len cap] w fun e w' => e = .returned (.bool true) ∧ Below w.heap.size w w' := good a len cap b o ss w T hc hz hm
end Go.Proofs.YtikoahjnhdnhdaaDoor.hashSums
