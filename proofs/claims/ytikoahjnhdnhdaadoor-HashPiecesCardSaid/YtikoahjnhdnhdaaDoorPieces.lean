/- THE WALK of 'scruplelaw02.HashPieces': it returns true for every message and every cuts, over a world that holds the table of the rounds. -/
import Derived.Test.YtikoahjnhdnhdaaDoorEq
import Derived.Test.YtikoahjnhdnhdaaDoorOpen
namespace Go.Proofs.YtikoahjnhdnhdaaDoor.hashPieces
open Go.ChangeShapes Go.WideShapes Go.ChangeAt Go.RowKit Go.Proofs.YtikoahjnhdnhdaaDoorW.PrintWords Go.Deep Go.Proofs.YtikoahjnhdnhdaaDoor
set_option linter.unusedVariables false
set_option linter.unusedSimpArgs false

set_option maxRecDepth 100000 in
set_option maxHeartbeats 2000000 in
theorem good (s : ByteArray) (a : Option Addr) (len cap b o : Nat) (zs : List Int) (w : World) (T : Tabs w) (hs : s.size ≤ 140737488351232) (hc : At1 w a len b o (fun i => .int .i64 (zs.getD i 0))) (hz : ∀ n ∈ zs, (Lit.int .i64 n).wf = true) (hm : len * 8 ≤ 140737488351232) :
    Calls Tryd.prog 4 #[.string s, .slice a len cap] w fun e w' => e = .returned (.bool true) ∧ Below w.heap.size w w' := by
  have kb := fun (t : ByteArray) (W : World) => print_bytes (P := Tryd.prog) 9 25 5 Tryd.underlying9 Tryd.underlying25 Tryd.underlying5 t W
  obtain ⟨n, hn⟩ : ∃ n, n = s.size := ⟨_, rfl⟩
  have hsn : (s.size : Int) = (n : Int) := by omega
  have hn' : n ≤ 140737488351232 := by omega
  have HT := Lib.hid T
  have HN := Lib.hid hn
  have HC := Lib.hid hc
  have HZ := Lib.hid hz
  clear T hn hc hz hs
  go_enter Tryd.func4, Tryd.ntmps4
  go_wp2_with fail
  refine (new_any w).mono ?_
  rintro e w1 ⟨rfl, S1, q1, hs1⟩
  have HS1 := Lib.hid S1
  have hg1 : w.heap.size < w1.heap.size := S1.lt
  clear S1 hs1
  go_wp2_with fail
  go_loopw [6, 7, 8] (fun at_ i _ wr => ∃ j k : Nat, j ≤ len + 1 ∧ k ≤ n ∧ i = .int .i64 j ∧ at_ = .int .i64 k ∧ Hid (Hs wr w.heap.size ((bytesOf s).take k)) ∧ Below w.heap.size w wr) (fun _ i _ _ => len + 1 - (intOf i).toNat)
  case atStart => exact ⟨0, 0, by omega, by omega, rfl, rfl, HS1, q1⟩
  case round =>
    obtain ⟨j, k, hj, hk, rfl, rfl, HS, hB⟩ := hrel
    have hgl := HS.out.lt
    by_cases hlt : j ≤ len
    · by_cases hlt2 : j < len
      · obtain ⟨ha, hbw⟩ := HC.out.1 (by omega)
        subst ha
        have hci := (hB.cell (p := ⟨b, o + j, none⟩) hbw).trans (HC.out.2 j hlt2)
        simp only at hci
        obtain ⟨r0, hr0⟩ : ∃ r : Nat, (n : Int) - (k : Int) = (r : Int) := ⟨n - k, by omega⟩
        have hwz : -9223372036854775808 ≤ zs.getD j 0 ∧ zs.getD j 0 ≤ 9223372036854775807 := by
          rw [List.getD_eq_getElem?_getD]
          cases e : zs[j]? with
          | none => simp
          | some v => exact bounds_i64 (HZ.out v (List.mem_of_getElem? e))
        generalize zs.getD j 0 = z at *
        obtain ⟨x, hx0, hx1, hp⟩ := pick_any z ((r0 : Int) + 1) wr hwz.1 hwz.2 (by omega) (by omega)
        obtain ⟨r, rfl⟩ := Int.eq_ofNat_of_zero_le hx0
        have hrn : k + r ≤ n := by omega
        have HP := Lib.hid hp
        clear hp hx0 hwz
        go_wp2_with fail
        refine HP.out.mono ?_
        rintro e w' ⟨rfl, rfl⟩
        clear HP hci
        have hct := cut_str s k r (by have := HN.out; omega)
        have hht := head_str s k r (by have := HN.out; omega)
        have HBT := Lib.hid (bytes_piece s k r)
        have HBU := Lib.hid (bytes_head s (k + r))
        have hts : (s.extract k (k + r)).size = r := by rw [ByteArray.size_extract]; have := HN.out; omega
        have hus : (s.extract 0 (k + r)).size = k + r := by rw [ByteArray.size_extract]; have := HN.out; omega
        generalize s.extract k (k + r) = t at *
        generalize s.extract 0 (k + r) = u at *
        have hkl : ((bytesOf s).take k).length = k := by rw [List.length_take, bytesOf_length]; have := HN.out; omega
        have h14 := write_any ((bytesOf s).take k) (bytesOf t) w.heap.size _ _ _ (Lib.bytesWorld wr 5 t) (HT.out.below (bytes_below hB hB.size 5 t)) (HS.out.below (bytes_below (Below.refl _ _) (Nat.le_refl _) 5 t)) (HT.out.lt) ((bytes_in wr t (by omega)).src (fun ad he => by injection he with he; subst he; show wr.heap.size ≠ w.heap.size; omega)) (bytes_in wr t (by omega)).cap (by rw [hkl, hts]; omega)
        have hE : (bytesOf s).take k ++ bytesOf t = (bytesOf s).take (k + r) := by rw [HBT.out, List.take_add]
        rw [hkl, hts, hE] at h14
        have hkr : ((k + r : Nat) : Int) = (k : Int) + (r : Int) := by omega
        rw [hkr] at h14
        have H14 := Lib.hid h14
        have HTS := Lib.hid hts
        have HUS := Lib.hid hus
        have qb : Below w.heap.size w (Lib.bytesWorld wr 5 t) := bytes_below hB hB.size 5 t
        have kt := kb t
        rw [hts] at kt
        have ku := kb u
        rw [hus] at ku
        have HKR := Lib.hid hkr
        clear h14 hts hus hkl hE hkr kb
        go_wp2_with fail
        refine H14.out.mono ?_
        rintro e w3 ⟨rfl, S3, G3⟩
        have q3 : Below w.heap.size w w3 := qb.grown G3 qb.size (fun j hj => by injection hj with hj; omega)
        have T3 := HT.out.below q3
        have h15 : ∀ W, Below w3.heap.size w3 W → Calls Tryd.prog 15 #[.pointer (some ⟨w.heap.size, 0, none⟩)] W fun e w' => e = .returned (.agg (nums .u8 (shaF ((bytesOf s).take (k + r)))).toArray) ∧ Below W.heap.size W w' := fun W h => sum_any _ w.heap.size W (T3.below h) (S3.below h) HT.out.lt (by rw [List.length_take]; omega)
        have h7 : ∀ W A c, Below w3.heap.size w3 W → In W A (k + r) c (bytesOf u) → Calls Tryd.prog 7 #[.slice A (k + r) c] W fun e w' => e = .returned (.agg (nums .u8 (shaF ((bytesOf s).take (k + r)))).toArray) ∧ Below W.heap.size W w' := fun W A c h hi => by
          have h1 := hsum_any (bytesOf u) A (k + r) c W (T3.below h) hi (by omega)
          rw [HBU.out] at h1
          exact h1
        have heq := fun W => eq23 (shaF ((bytesOf s).take (k + r))) (shaF_length _) W
        have HS3 := Lib.hid S3
        have hui : ∀ W, In (Lib.bytesWorld W 5 u) (some ⟨W.heap.size, 0, none⟩) (k + r) (grownCap W (k + r) 0 5) (bytesOf u) := fun W => by
          have h1 := bytes_in W u (by have := HUS.out; omega)
          rw [HUS.out] at h1
          exact h1
        have HUI := Lib.hid hui
        have H15 := Lib.hid h15
        have H7 := Lib.hid h7
        generalize (nums .u8 (shaF ((bytesOf s).take (k + r)))).toArray = GR at *
        clear h15 h7 hui S3 G3 H14 T3
        go_wp2_with fail
        go_region_with (first
          | (go_at_call 15; refine (H15.out _ (by first | exact keep_drew1 w3 | exact keep_bytes (keep_drew1 w3) u)).mono ?_; rintro e wx ⟨rfl, hb1⟩)
          | (go_at_call 7; refine (H7.out _ _ _ (by first | exact keep_call hb1 (keep_bytes (keep_drew1 w3) u) | exact keep_bytes (keep_call hb1 (keep_drew1 w3)) u) (by first | exact HUI.out _ | exact (HUI.out _).below hb1)).mono ?_; rintro e wy ⟨rfl, hb2⟩))
        all_goals
          have BF : Below w3.heap.size w3 wy := by first | exact keep_call hb2 (keep_bytes (keep_call hb1 (keep_drew1 w3)) u) | exact keep_call hb2 (keep_call hb1 (keep_bytes (keep_drew1 w3) u))
          have qF : Below w.heap.size w wy := q3.trans (BF.mono q3.size)
          have HF : Hid (Hs wy w.heap.size ((bytesOf s).take (k + r))) := HS3.out.below BF
          clear hb1 hb2 BF H15 H7
          go_wp2
          go_roundw
          case rel => exact ⟨j + 1, k + r, by omega, hrn, by go_num, by go_num, HF, qF⟩
          case measure => simp [intOf]; omega
      · obtain ⟨r, hr⟩ : ∃ r : Nat, (n : Int) - (k : Int) = (r : Int) := ⟨n - k, by omega⟩
        have hrn : k + r ≤ n := by omega
        have hct := cut_str s k r (by have := HN.out; omega)
        have hht := head_str s k r (by have := HN.out; omega)
        have HBT := Lib.hid (bytes_piece s k r)
        have HBU := Lib.hid (bytes_head s (k + r))
        have hts : (s.extract k (k + r)).size = r := by rw [ByteArray.size_extract]; have := HN.out; omega
        have hus : (s.extract 0 (k + r)).size = k + r := by rw [ByteArray.size_extract]; have := HN.out; omega
        generalize s.extract k (k + r) = t at *
        generalize s.extract 0 (k + r) = u at *
        have hkl : ((bytesOf s).take k).length = k := by rw [List.length_take, bytesOf_length]; have := HN.out; omega
        have h14 := write_any ((bytesOf s).take k) (bytesOf t) w.heap.size _ _ _ (Lib.bytesWorld wr 5 t) (HT.out.below (bytes_below hB hB.size 5 t)) (HS.out.below (bytes_below (Below.refl _ _) (Nat.le_refl _) 5 t)) (HT.out.lt) ((bytes_in wr t (by omega)).src (fun ad he => by injection he with he; subst he; show wr.heap.size ≠ w.heap.size; omega)) (bytes_in wr t (by omega)).cap (by rw [hkl, hts]; omega)
        have hE : (bytesOf s).take k ++ bytesOf t = (bytesOf s).take (k + r) := by rw [HBT.out, List.take_add]
        rw [hkl, hts, hE] at h14
        have hkr : ((k + r : Nat) : Int) = (k : Int) + (r : Int) := by omega
        rw [hkr] at h14
        have H14 := Lib.hid h14
        have HTS := Lib.hid hts
        have HUS := Lib.hid hus
        have qb : Below w.heap.size w (Lib.bytesWorld wr 5 t) := bytes_below hB hB.size 5 t
        have kt := kb t
        rw [hts] at kt
        have ku := kb u
        rw [hus] at ku
        have HKR := Lib.hid hkr
        clear h14 hts hus hkl hE hkr kb
        go_wp2_with fail
        refine H14.out.mono ?_
        rintro e w3 ⟨rfl, S3, G3⟩
        have q3 : Below w.heap.size w w3 := qb.grown G3 qb.size (fun j hj => by injection hj with hj; omega)
        have T3 := HT.out.below q3
        have h15 : ∀ W, Below w3.heap.size w3 W → Calls Tryd.prog 15 #[.pointer (some ⟨w.heap.size, 0, none⟩)] W fun e w' => e = .returned (.agg (nums .u8 (shaF ((bytesOf s).take (k + r)))).toArray) ∧ Below W.heap.size W w' := fun W h => sum_any _ w.heap.size W (T3.below h) (S3.below h) HT.out.lt (by rw [List.length_take]; omega)
        have h7 : ∀ W A c, Below w3.heap.size w3 W → In W A (k + r) c (bytesOf u) → Calls Tryd.prog 7 #[.slice A (k + r) c] W fun e w' => e = .returned (.agg (nums .u8 (shaF ((bytesOf s).take (k + r)))).toArray) ∧ Below W.heap.size W w' := fun W A c h hi => by
          have h1 := hsum_any (bytesOf u) A (k + r) c W (T3.below h) hi (by omega)
          rw [HBU.out] at h1
          exact h1
        have heq := fun W => eq23 (shaF ((bytesOf s).take (k + r))) (shaF_length _) W
        have HS3 := Lib.hid S3
        have hui : ∀ W, In (Lib.bytesWorld W 5 u) (some ⟨W.heap.size, 0, none⟩) (k + r) (grownCap W (k + r) 0 5) (bytesOf u) := fun W => by
          have h1 := bytes_in W u (by have := HUS.out; omega)
          rw [HUS.out] at h1
          exact h1
        have HUI := Lib.hid hui
        have H15 := Lib.hid h15
        have H7 := Lib.hid h7
        generalize (nums .u8 (shaF ((bytesOf s).take (k + r)))).toArray = GR at *
        clear h15 h7 hui S3 G3 H14 T3
        go_wp2_with fail
        go_region_with (first
          | (go_at_call 15; refine (H15.out _ (by first | exact keep_drew1 w3 | exact keep_bytes (keep_drew1 w3) u)).mono ?_; rintro e wx ⟨rfl, hb1⟩)
          | (go_at_call 7; refine (H7.out _ _ _ (by first | exact keep_call hb1 (keep_bytes (keep_drew1 w3) u) | exact keep_bytes (keep_call hb1 (keep_drew1 w3)) u) (by first | exact HUI.out _ | exact (HUI.out _).below hb1)).mono ?_; rintro e wy ⟨rfl, hb2⟩))
        all_goals
          have BF : Below w3.heap.size w3 wy := by first | exact keep_call hb2 (keep_bytes (keep_call hb1 (keep_drew1 w3)) u) | exact keep_call hb2 (keep_call hb1 (keep_bytes (keep_drew1 w3) u))
          have qF : Below w.heap.size w wy := q3.trans (BF.mono q3.size)
          have HF : Hid (Hs wy w.heap.size ((bytesOf s).take (k + r))) := HS3.out.below BF
          clear hb1 hb2 BF H15 H7
          go_wp2
          go_roundw
          case rel => exact ⟨j + 1, k + r, by omega, hrn, by go_num, by go_num, HF, qF⟩
          case measure => simp [intOf]; omega
    · go_wp2_with fail
      go_ret
      exact ⟨rfl, hB⟩

theorem walk {w : World} (s : ByteArray) (hs : s.size ≤ 140737488351232) (a : Option Addr) (len cap b o : Nat) (zs : List Int) (hc : At1 w a len b o (fun i => .int .i64 (zs.getD i 0))) (hz : ∀ n ∈ zs, (Lit.int .i64 n).wf = true) (hm : len * 8 ≤ 140737488351232) (T : Tabs w) :
    Calls Tryd.prog 4 #[.string s, .slice a len cap] w fun e w' => e = .returned (.bool true) ∧ Below w.heap.size w w' := good s a len cap b o zs w T hs hc hz hm
end Go.Proofs.YtikoahjnhdnhdaaDoor.hashPieces
