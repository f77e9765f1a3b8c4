/- CONTRACTS of scruplelaw02.lent, still, over, pick. -/
import Derived.Test.YtikoahjnhdnhdaaDoorHSum
import Derived.Lib.BufferWrite
namespace Go.Proofs.YtikoahjnhdnhdaaDoor
open Go.ChangeShapes Go.WideShapes Go.ChangeAt Go.RowKit Go.Proofs.YtikoahjnhdnhdaaDoorW.PrintWords Go.Deep
set_option linter.unusedVariables false
set_option linter.unusedSimpArgs false

/-- What lies behind lent bytes. -/
def fillB (n k : Nat) : List Int := (List.range k).map fun i => 200 + ((n + i : Nat) : Int) % 40
def lentL (bs : List Int) : List Int := bs ++ fillB bs.length 70
theorem lentL_length (bs : List Int) : (lentL bs).length = bs.length + 70 := by simp [lentL, fillB]
theorem fill_step (bs : List Int) (k : Nat) (hk : k < 70) : (bs ++ (fillB bs.length k ++ List.replicate (70 - k) 0)).set (bs.length + k) (200 + ((bs.length + k : Nat) : Int) % 40) = bs ++ (fillB bs.length (k + 1) ++ List.replicate (70 - (k + 1)) 0) := by
  have h1 : (fillB bs.length k).length = k := by simp [fillB]
  rw [List.set_append_right _ _ (by omega), Nat.add_sub_cancel_left, List.set_append_right _ _ (by omega), h1, Nat.sub_self]
  congr 1
  rw [show 70 - k = (70 - (k + 1)) + 1 by omega, List.replicate_succ, List.set_cons_zero]
  unfold fillB
  rw [List.range_succ, List.map_append]
  simp

/-- The block g holds just these bytes. -/
def Row5 (w : World) (g : Nat) (xs : List Int) : Prop := Bk 5 w g (nums .u8 xs).toArray
theorem Row5.below {w w1 : World} {g : Nat} {xs : List Int} (h : Row5 w g xs) (hb : Below w.heap.size w w1) : Row5 w1 g xs := Bk.below h hb
theorem Row5.lt {w : World} {g : Nat} {xs : List Int} (h : Row5 w g xs) : g < w.heap.size := Bk.lt h
theorem Row5.cell {w : World} {g : Nat} {xs : List Int} (h : Row5 w g xs) (i : Nat) (hi : i < xs.length) : w.cell? ⟨g, i, none⟩ = some (.int .u8 (xs.getD i 0)) := by
  rw [Bk.cell h, nums_at _ _ _ hi]
theorem Row5.frozen {w : World} {g : Nat} {xs : List Int} (h : Row5 w g xs) (i : Nat) : w.frozen? ⟨g, i, none⟩ = false := Bk.frozen h i
theorem Row5.put {w : World} {g : Nat} {xs : List Int} (h : Row5 w g xs) (i : Nat) (x : Int) : Row5 (w.setCell ⟨g, i, none⟩ (.int .u8 x)) g (xs.set i x) := by
  have := Bk.set h i (.int .u8 x)
  rw [set_nums] at this
  exact this
theorem Row5.other {w w1 : World} {g b : Nat} {xs : List Int} (h : Row5 w g xs) (hg : w.grownBy w1 (some b)) (hne : g ≠ b) : Row5 w1 g xs := Bk.other h hg hne
theorem Row5.reads {w : World} {g : Nat} {xs : List Int} (h : Row5 w g xs) (n : Nat) (hn : n ≤ xs.length) (hm : n ≤ 9223372036854775807) : ReadsInt w .u8 (some ⟨g, 0, none⟩) n (xs.take n) := by
  refine ⟨by rw [List.length_take]; omega, hm, fun _ => ⟨_, rfl, fun j hj => ?_⟩⟩
  rw [Go.WideShapes.add_plain, Nat.zero_add, h.cell j (by omega)]
  simp [List.getD_eq_getElem?_getD, List.getElem?_take, hj]
/-- The bytes that are lent. -/
theorem Row5.lent {w : World} {g : Nat} {bs : List Int} (h : Row5 w g (lentL bs)) (hm : bs.length ≤ 9223372036854775807) : In w (some ⟨g, 0, none⟩) bs.length (bs.length + 70) bs := by
  have h1 := h.reads bs.length (by rw [lentL_length]; omega) hm
  have h2 : (lentL bs).take bs.length = bs := by
    unfold lentL
    rw [List.take_append_of_le_length (by omega), List.take_of_length_le (by omega)]
  rw [h2] at h1
  exact ⟨h1, fun ad he => by injection he with he; subst he; exact h.lt, by omega⟩

theorem made_row (m : Nat) : madeCells #[Value.int .u8 0] m = (nums .u8 (List.replicate m 0)).toArray := by
  apply Array.ext'
  apply List.ext_getElem
  · simp [nums, madeCells]
  · intro i h1 h2
    simp [nums, madeCells, Nat.mod_one]

theorem str_bytes (s : ByteArray) : strOfNums (bytesOf s) = s := by
  obtain ⟨d⟩ := s
  unfold strOfNums bytesOf
  congr 1
  rw [List.map_map]
  have : ((fun n : Int => UInt8.ofNat n.toNat) ∘ fun b : UInt8 => (b.toNat : Int)) = id := by
    funext b
    simp
  rw [this, List.map_id]

structure Lent (w w' : World) (bs : List Int) (g : Nat) : Prop where
  row : Row5 w' g (lentL bs)
  new : w.heap.size ≤ g
  below : Below w.heap.size w w'

theorem copy_str (w : World) (g : Nat) (cur : List Int) (s : ByteArray) (hg : Row5 w g cur) (hfit : s.size ≤ cur.length) :
    ∃ w1, (∀ ty, (Builtin.copy_ #[25, 9] ty #[.slice (some ⟨g, 0, none⟩) cur.length cur.length, .string s]).run Tryd.prog w = .ok (goInt (s.size : Int)) w1) ∧ Row5 w1 g (bytesOf s ++ cur.drop s.size) ∧ (∀ B, B ≤ g → Below B w w1) ∧ w1.heap.size = w.heap.size := by
  refine ⟨w.setRow g (nums .u8 (bytesOf s ++ cur.drop s.size)).toArray, fun ty => ?_, setRow_heap w g _ _ 5 (0, 0) hg, fun B hB => below_setRow (Below.refl _ _) hB _, size_setRow _ _ _⟩
  have h := Lib.run_copy_row_string (P := Tryd.prog) w 25 9 ty 5 g 0 cur.length cur.length s (nums .u8 cur).toArray 5 Tryd.underlying25 size5 hg hfit (by simp [nums]; exact hfit)
  rw [h]
  have e : ((nums .u8 cur).toArray.toList.take 0 ++ Lib.byteCells s.data.toList ++ (nums .u8 cur).toArray.toList.drop (0 + s.size)).toArray = (nums .u8 (bytesOf s ++ cur.drop s.size)).toArray := by
    simp [nums, List.map_drop, bytesOf, Lib.byteCells]
  rw [e]

set_option maxHeartbeats 1000000 in
theorem lent_any (s : ByteArray) (w : World) (hm : s.size ≤ 140737488351232) :
    Calls Tryd.prog 9 #[.string s] w fun e w' => ∃ g, e = .returned (.tuple #[.slice (some ⟨g, 0, none⟩) s.size (s.size + 70), .slice (some ⟨g, 0, none⟩) (s.size + 70) (s.size + 70)]) ∧ Lent w w' (bytesOf s) g := by
  have hl := bytesOf_length s
  have hcp0 := fun (w : World) (g : Nat) (cur : List Int) => copy_str w g cur s
  generalize hbs : bytesOf s = bs at *
  obtain ⟨n, hn⟩ : ∃ n, n = s.size := ⟨_, rfl⟩
  rw [← hn] at hl hm hcp0
  have hmk0 := print_make (P := Tryd.prog) 25 5 .u8 1 Tryd.underlying25 info5 (by omega) (n + 70) (by omega)
  rw [made_row] at hmk0
  generalize hC : (nums .u8 (List.replicate (n + 70) 0)).toArray = C at *
  have hmk : ∀ W : World, (Instr.makeSlice 25 (.int .i64 ((n : Int) + 70)) (.int .i64 ((n : Int) + 70))).run Tryd.prog W = .ok (.slice (some ⟨W.heap.size, 0, none⟩) (n + 70) (n + 70)) (W.alloc (.cells C 5)) := hmk0
  have hg : Row5 (w.alloc (.cells C 5)) w.heap.size (List.replicate (n + 70) 0) := by
    rw [← hC]
    exact Bk.new 5 w _
  have hb0 : Below w.heap.size w (w.alloc (.cells C 5)) := (Below.refl _ _).alloc (Nat.le_refl _) _
  obtain ⟨w1, hcp, hR, hB, hs1⟩ := hcp0 (w.alloc (.cells C 5)) w.heap.size _ hg (by simp)
  rw [List.length_replicate] at hcp
  have hR0 : Hid (Row5 w1 w.heap.size (bs ++ (fillB bs.length 0 ++ List.replicate (70 - 0) 0))) := by
    have e : (List.replicate (n + 70) (0 : Int)).drop n = fillB bs.length 0 ++ List.replicate (70 - 0) 0 := by
      rw [List.drop_replicate, Nat.add_sub_cancel_left]
      simp [fillB]
    rw [e] at hR
    exact hR
  have hB1 : Hid (Below w.heap.size w w1) := hb0.trans (hB _ (Nat.le_refl _))
  have hlen : ((s.size : Int)) = (n : Int) := by omega
  have HN := Lib.hid hn
  have HL := Lib.hid hl
  rw [← hn]
  clear hmk0 hR hB hb0 hg hcp0 hn hl hbs
  go_enter Tryd.func9, Tryd.ntmps9
  go_wp2_with fail
  go_loopw [5] (fun i wr => ∃ k : Nat, k ≤ 70 ∧ i = .int .i64 ((n : Int) + k) ∧ Hid (Row5 wr w.heap.size (bs ++ (fillB bs.length k ++ List.replicate (70 - k) 0))) ∧ Hid (Below w.heap.size w wr)) (fun i _ => n + 70 - (intOf i).toNat)
  case atStart => exact ⟨0, by omega, by simp, hR0, hB1⟩
  case round =>
    clear hcp hmk hR0 hB1 hs1
    obtain ⟨k, hk, rfl, HR, HB⟩ := hrel
    by_cases hlt : k < 70
    · have hlb : (bs ++ (fillB bs.length k ++ List.replicate (70 - k) 0)).length = n + 70 := by simp [fillB, HL.out]; omega
      have c1 : wr.cell? ⟨w.heap.size, n + k, none⟩ = some (.int .u8 ((bs ++ (fillB bs.length k ++ List.replicate (70 - k) 0)).getD (n + k) 0)) := HR.out.cell _ (by omega)
      have f1 := HR.out.frozen (n + k)
      generalize (bs ++ (fillB bs.length k ++ List.replicate (70 - k) 0)).getD (n + k) 0 = z at c1
      have hlt' : (n : Int) + k < n + 70 := by omega
      have HR2 : Hid (Row5 (wr.setCell ⟨w.heap.size, n + k, none⟩ (.int .u8 (200 + ((n : Int) + k) % 40))) w.heap.size (bs ++ (fillB bs.length (k + 1) ++ List.replicate (70 - (k + 1)) 0))) := by
        have := HR.out.put (bs.length + k) (200 + ((bs.length + k : Nat) : Int) % 40)
        rw [fill_step bs k hlt] at this
        show Row5 _ _ _
        rw [HL.out] at this ⊢
        exact this
      have HB2 : Hid (Below w.heap.size w (wr.setCell ⟨w.heap.size, n + k, none⟩ (.int .u8 (200 + ((n : Int) + k) % 40)))) := HB.out.setCell (Nat.le_refl _) _
      clear hlb
      go_wp2
      go_roundw
      case rel => exact ⟨k + 1, by omega, by go_num, HR2, HB2⟩
      case measure => simp [intOf]; omega
    · obtain rfl : k = 70 := by omega
      go_wp2
      go_ret2
      refine ⟨_, rfl, ?_, Nat.le_refl _, HB.out⟩
      have := HR.out
      simpa [lentL] using this

set_option maxHeartbeats 1000000 in
/-- ████ still ████ -/
theorem still_any (s : ByteArray) (g : Nat) (w : World) (hm : s.size ≤ 140737488351232) (R : Row5 w g (lentL (bytesOf s))) :
    Calls Tryd.prog 10 #[.slice (some ⟨g, 0, none⟩) (s.size + 70) (s.size + 70), .string s] w fun e w' => e = .returned (.bool true) ∧ w = w' := by
  have hl := bytesOf_length s
  have hrd := (R.lent (by rw [hl]; omega)).reads
  have hcv := string_of_reads (P := Tryd.prog) (dst := 9) (c := s.size + 70) Tryd.underlying25 Tryd.underlying5 Tryd.underlying9 hrd
  rw [str_bytes, hl] at hcv
  have hR0 := Lib.hid R
  have hss : (s.toList == s.toList) = true := by simp
  generalize hbs : bytesOf s = bs at *
  obtain ⟨n, hn⟩ : ∃ n, n = s.size := ⟨_, rfl⟩
  have hlen : ((s.size : Int)) = (n : Int) := by omega
  rw [← hn] at hl hm hcv ⊢
  have HN := Lib.hid hn
  have HL := Lib.hid hl
  clear R hrd hn hl hbs
  go_enter Tryd.func10, Tryd.ntmps10
  go_wp2_with fail
  clear hcv
  go_loop [5] (fun i => ∃ k : Nat, k ≤ 70 ∧ i = .int .i64 ((n : Int) + k)) (fun i => n + 70 - (intOf i).toNat)
  case atStart => exact ⟨0, by omega, by simp⟩
  case round =>
    obtain ⟨k, hk, rfl⟩ := hrel
    by_cases hlt : k < 70
    · have c0 := hR0.out.cell (n + k) (by rw [lentL_length, HL.out]; omega)
      have hlt' : (n : Int) + k < n + 70 := by omega
      have e : (lentL bs).getD (n + k) 0 = 200 + ((n : Int) + k) % 40 := by
        unfold lentL fillB
        rw [List.getD_eq_getElem?_getD, List.getElem?_append_right (by rw [HL.out]; omega), HL.out, Nat.add_sub_cancel_left]
        simp [hlt]
      rw [e] at c0
      clear e
      go_wp2
      go_round
      case rel => exact ⟨k + 1, by omega, by go_num⟩
      case measure => simp [intOf]; omega
    · go_wp2
      go_ret
      exact ⟨rfl, rfl⟩

set_option maxHeartbeats 1000000 in
/-- ████ over ████ -/
theorem over_any (g l : Nat) (ys : List Int) (w : World) (R : Row5 w g ys) (hl : ys.length = l) (hm : l ≤ 140737488355328) :
    Calls Tryd.prog 11 #[.slice (some ⟨g, 0, none⟩) l l] w fun e w' => e = .returned (.tuple #[]) ∧ w.grownBy w' (some g) ∧ w'.heap.size = w.heap.size := by
  have HR := Lib.hid R
  have HL := Lib.hid hl
  clear R hl
  go_enter Tryd.func11, Tryd.ntmps11
  go_wp2_with fail
  go_loopw [2] (fun i wr => ∃ k : Nat, k ≤ l ∧ i = .int .i64 k ∧ Hid (∃ zs, zs.length = l ∧ Row5 wr g zs) ∧ Hid (w.grownBy wr (some g)) ∧ Hid (wr.heap.size = w.heap.size)) (fun i _ => l - (intOf i).toNat)
  case atStart => exact ⟨0, by omega, rfl, ⟨ys, HL.out, HR.out⟩, World.grownBy.refl _ _, rfl⟩
  case round =>
    obtain ⟨k, hk, rfl, HZ, HG, HS⟩ := hrel
    obtain ⟨zs, hz, Z⟩ := HZ.out
    by_cases hlt : k < l
    · have c0 := Z.cell k (by omega)
      have f0 := Z.frozen k
      generalize zs.getD k 0 = z at c0
      have HZ2 : Hid (∃ zs, zs.length = l ∧ Row5 (wr.setCell ⟨g, k, none⟩ (.int .u8 90)) g zs) := ⟨zs.set k 90, by rw [List.length_set]; exact hz, Z.put k 90⟩
      have HG2 : Hid (w.grownBy (wr.setCell ⟨g, k, none⟩ (.int .u8 90)) (some g)) := only_set HG.out k _
      have HS2 : Hid ((wr.setCell ⟨g, k, none⟩ (.int .u8 90)).heap.size = w.heap.size) := by show _ = _; rw [← HS.out]; simp [World.setCell]
      clear hz Z HZ
      go_wp2
      go_roundw
      case rel => exact ⟨k + 1, by omega, by go_num, HZ2, HG2, HS2⟩
      case measure => simp [intOf]; omega
    · clear hz Z HZ
      go_wp2
      go_end0
      exact ⟨rfl, HG.out, HS.out⟩

theorem pick_any (c n : Int) (w : World) (hc : -9223372036854775808 ≤ c) (hc' : c ≤ 9223372036854775807) (hn : 1 ≤ n) (hn' : n ≤ 9223372036854775807) :
    ∃ k : Int, 0 ≤ k ∧ k < n ∧ Calls Tryd.prog 13 #[.int .i64 c, .int .i64 n] w fun e w' => e = .returned (.int .i64 k) ∧ w = w' := by
  by_cases h : c < 0
  · refine ⟨(-(c + 1)) % n, Int.emod_nonneg _ (by omega), Int.emod_lt_of_pos _ (by omega), ?_⟩
    go_enter Tryd.func13, Tryd.ntmps13
    go_wp2
    go_ret
    refine ⟨?_, rfl⟩
    show Ending.returned (.int .i64 (-((c + 1).tmod n))) = _
    rw [← Int.neg_tmod, Int.tmod_eq_emod_of_nonneg (by omega)]
  · refine ⟨c % n, Int.emod_nonneg _ (by omega), Int.emod_lt_of_pos _ (by omega), ?_⟩
    go_enter Tryd.func13, Tryd.ntmps13
    go_wp2
    go_ret
    exact ⟨rfl, rfl⟩
end Go.Proofs.YtikoahjnhdnhdaaDoor
